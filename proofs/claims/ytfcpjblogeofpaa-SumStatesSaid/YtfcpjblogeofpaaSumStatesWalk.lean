/- The walk of SumStates: it answers true. -/
import Derived.Test.YtfcpjblogeofpaaSumAwake
import Derived.Test.YtfcpjblogeofpaaSteadyT
namespace Go.Proofs.Ytfcpjblogeofpaa.PSumTexts
open Go.RowKit Go.Proofs.YtfcpjblogeofpaaW.PrintWords Go.Proofs.YtfcpjblogeofpaaW.PrintLast Go.Proofs.YtfcpjblogeofpaaW.PrintMore
set_option linter.unusedVariables false
set_option linter.unusedSimpArgs false

theorem eqA26 (d : Nat) (w : World) (x0 y0 : Int) (x1 y1 : Int) :
    (Op.equalIn (d + 2) 26 (.agg #[.int .u64 x0, .int .u64 x1]) (.agg #[.int .u64 y0, .int .u64 y1])).run Try.prog w = .ok (x0 == y0 && (x1 == y1)) w := by
  refine eqA_of Try.underlying26 (by kernel_rfl) ?_
  refine eqf_cons (by rfl) (by go_simp; rfl) (by go_simp; rfl) (by go_simp) ?_
  exact eqf_last (by rfl) (by go_simp; rfl) (by go_simp; rfl) (by go_simp)
section
attribute [local go_sem high] eqA26
theorem run_eq26 {ρ : Operand → Value} {o : Oper} {a b : Operand} {t : TypeId} (ho : o.op = .binOp .eql 26 a b t) {x0 x1 y0 y1 : Int} (ha : ρ a = .agg #[.int .u64 x0, .int .u64 x1]) (hb : ρ b = .agg #[.int .u64 y0, .int .u64 y1]) (w : World) :
    (execOp ρ o).run Try.prog w = .ok (.value (.bool (x0 == y0 && (x1 == y1)))) w := by
  unfold execOp
  rw [ho]
  simp only [ha, hb]
  go_simp
end
theorem reads_one {w : World} {g : Nat} {b : Int} (h : w.heap[g]? = some (.cells #[.int .u8 b] 5 (0, 0))) : ReadsInt w .u8 (some ⟨g, 0, none⟩) 1 [b] := by
  refine ⟨rfl, by decide, fun _ => ⟨_, rfl, fun j hj => ?_⟩⟩
  obtain rfl : j = 0 := by omega
  rw [show (⟨g, 0, none⟩ : Addr).add 0 = ⟨g, 0, none⟩ from rfl, blk_cell h 0]
  rfl
theorem str_one_size (b : Int) : (strOfNums [b]).size = 1 := by simp [strOfNums, ByteArray.size]
theorem str_one_bt (b : Int) (h0 : 0 ≤ b) (h1 : b ≤ 255) : bt (strOfNums [b]) ((0 : Nat) : Int) = b := by
  unfold bt
  rw [dif_pos (by rw [str_one_size]; omega)]
  have e : ((strOfNums [b])[((0 : Nat) : Int).toNat]'(by rw [str_one_size]; omega)) = UInt8.ofNat b.toNat := rfl
  rw [e, UInt8.toNat_ofNat_of_lt' (by show b.toNat < 256; omega)]
  omega
theorem states_pure (h n b : Int) (h0 : 0 ≤ b) (h1 : b ≤ 255) : sum_State_Add.f ((strOfNums [b]).size + 1) h n (strOfNums [b]) = some ((stepB (h, n) b).1, IntKind.u64.wrap (n + 1)) := by
  have e := add_f (strOfNums [b]) (h, n) (by rw [str_one_size]; omega)
  rw [e, str_one_size]
  show some ((stepB (h, n) (bt (strOfNums [b]) ((0 : Nat) : Int))).1, (stepB (h, n) (bt (strOfNums [b]) ((0 : Nat) : Int))).2) = _
  rw [str_one_bt b h0 h1]
  rfl
theorem sum_pure (h n : Int) : sum_State_Sum.f (IntKind.u64.wrap (h + n)) 0 = some (sumS (h, n)) := by
  show some (sumS (IntKind.u64.wrap (h + n), 0)) = _
  have e : IntKind.u64.wrap (IntKind.u64.wrap (h + n) + 0) = IntKind.u64.wrap (h + n) := by
    have r := u64_range (h + n)
    rw [Int.add_zero]
    exact u64_small r.1 r.2
  unfold sumS
  simp only [e]
theorem byte_pure (h n b : Int) : sum_State_Byte.f h n b = some ((stepB (h, n) b).1, IntKind.u64.wrap (n + 1)) := rfl
theorem sum_plain (h n : Int) : sum_State_Sum.f h n = some (sumS (h, n)) := rfl
theorem empty_pure (h n : Int) : sum_State_Add.f 1 h n { data := #[] } = some (h, n) := by
  have e := add_f { data := #[] } (h, n) (by decide)
  exact e
set_option maxHeartbeats 4000000 in
theorem states_walk (h : Int) (hh : (Lit.int .u64 h).wf = true) (n : Int) (hn : (Lit.int .u64 n).wf = true) (b : Int) (hb : (Lit.int .u8 b).wf = true) (w0 : World) :
    Calls Try.prog 5 #[.int .u64 h, .int .u64 n, .int .u8 b] w0 fun e w' => e = .returned (.bool true) ∧ Below w0.heap.size w0 w' := by
  have HB := Aside0.mk (Below.refl w0.heap.size w0)
  have e1 : IntKind.u8.min = 0 := rfl
  have e2 : IntKind.u8.max = 255 := rfl
  have h0 : 0 ≤ b := by simp [Lit.wf] at hb; omega
  have h1 : b ≤ 255 := by simp [Lit.wf] at hb; omega
  clear hb hh hn e1 e2
  have HY := Aside0.mk (byte_pure h n b)
  have HA := Aside0.mk (states_pure h n b h0 h1)
  have HE := Aside0.mk (empty_pure h n)
  have HS := Aside0.mk (sum_plain h n)
  have HT := Aside0.mk (sum_pure h n)
  generalize (stepB (h, n) b).1 = x1 at HY HA
  generalize sumS (h, n) = sx at HS HT
  obtain ⟨n1, hn1⟩ : ∃ n1, IntKind.u64.wrap (n + 1) = n1 := ⟨_, rfl⟩
  rw [hn1] at HY HA
  obtain ⟨hn2, hn3⟩ : ∃ s2, IntKind.u64.wrap (h + n) = s2 := ⟨_, rfl⟩
  rw [hn3] at HT
  go_enter Try.func5, Try.ntmps5
  go_wp2_with (first
   | (go_at_call 6; refine (awake_any _).mono ?_; rintro e w1 ⟨rfl, hb⟩; have zz_HB := Aside0.mk (below_step HB.out hb); clear HB; have HB := zz_HB; clear zz_HB; clear hb)
   | (go_at_call 13; refine (sum_State_Byte.calls _ _ _ _ _ _ HY.out).mono ?_; rintro e w2 ⟨rfl, hb⟩; have BK := Aside0.mk (blk_below (blk_new w1 (.cells #[.int .u64 h, .int .u64 n] 26 (0, 0))) hb); have GG := Aside0.mk (Nat.lt_of_lt_of_le (show w1.heap.size < (w1.alloc (.cells #[.int .u64 h, .int .u64 n] 26 (0, 0))).heap.size by simp) hb.size); have zz_HB := Aside0.mk (below_step (below_alloc HB.out _) hb); clear HB; have HB := zz_HB; clear zz_HB; clear hb))
  have BX := Aside0.mk (blk_new w2 (.cells #[.int .u64 x1, .int .u64 n1] 26 (0, 0)))
  have zz_BK := Aside0.mk (blk_below BK.out (below_alloc (Below.refl _ w2) (.cells #[.int .u64 x1, .int .u64 n1] 26 (0, 0)))); have zz_HB := Aside0.mk (below_alloc HB.out (.cells #[.int .u64 x1, .int .u64 n1] 26 (0, 0))); clear BK; clear HB; have BK := zz_BK; have HB := zz_HB; clear zz_BK; clear zz_HB
  generalize w2.alloc (.cells #[.int .u64 x1, .int .u64 n1] 26 (0, 0)) = w3 at HB BK BX ⊢
  generalize w2.heap.size = gx at BX ⊢
  generalize w1.heap.size = g at BK ⊢
  clear GG
  refine St.steadyR (n := 38) (by kernel_rfl) ([] :: [] :: [] :: [(2, 19)] :: [(3, 20)] :: [(1, 18), (4, 21)] :: [(0, 17), (5, 22)] :: [(6, 23)] :: [(7, 24)] :: [(7, 24), (8, 25)] :: [(7, 24)] :: [(7, 24), (10, 27)] :: [(7, 24), (9, 26), (11, 28)] :: [(7, 24), (12, 29)] :: [(13, 30)] :: [(14, 31)] :: [(14, 31)] :: [(14, 31)] :: [(14, 31), (16, 33), (17, 34)] :: [(14, 31), (15, 32), (18, 35)] :: [(14, 31), (19, 36)] :: [(20, 37)] :: [(21, 38)] :: [(21, 38), (22, 39)] :: [(21, 38)] :: [(21, 38), (23, 40), (24, 41)] :: [(21, 38), (25, 42)] :: [(26, 43)] :: [(27, 44)] :: [(27, 44), (28, 45)] :: [(27, 44)] :: [(27, 44)] :: [(27, 44), (30, 47), (31, 48)] :: [(27, 44), (32, 49)] :: [(27, 44), (33, 50)] :: [(27, 44), (29, 46), (34, 51)] :: [(27, 44), (35, 52)] :: [(36, 53)] :: []) (some 17 :: some 18 :: some 19 :: some 20 :: some 21 :: some 22 :: some 23 :: some 24 :: some 25 :: some 26 :: some 27 :: some 28 :: some 29 :: some 30 :: some 31 :: some 32 :: some 33 :: some 34 :: some 35 :: some 36 :: some 37 :: some 38 :: some 39 :: some 40 :: some 41 :: some 42 :: some 43 :: some 44 :: some 45 :: some 46 :: some 47 :: some 48 :: some 49 :: some 50 :: some 51 :: some 52 :: some 53 :: some 6 :: []) (by kernel_rfl) ((St.eqT ?c5_0) :: (St.eqT ?c5_1) :: (St.eqT ?c5_2) :: (fun _ v w => ∃ k : Nat, v = .slice (some ⟨k, 0, none⟩) 1 1 ∧ w.heap[k]? = some (.cells #[.int .u8 b] 5 (0, 0))) :: (St.eqT ?c5_4) :: (St.eqT ?c5_5) :: (St.eqT (.bool true)) :: (St.eqT ?c5_7) :: (St.eqT ?c5_8) :: (St.eqT ?c5_9) :: (St.eqT ?c5_10) :: (St.eqT ?c5_11) :: (St.eqT (.bool true)) :: (St.eqT ?c5_13) :: (St.eqT ?c5_14) :: (St.eqT ?c5_15) :: (St.eqT ?c5_16) :: (St.eqT ?c5_17) :: (St.eqT ?c5_18) :: (St.eqT (.bool true)) :: (St.eqT ?c5_20) :: (St.eqT ?c5_21) :: (St.eqT ?c5_22) :: (St.eqT ?c5_23) :: (St.eqT ?c5_24) :: (St.eqT (.bool true)) :: (St.eqT ?c5_26) :: (St.eqT ?c5_27) :: (St.eqT ?c5_28) :: (St.eqT ?c5_29) :: (St.eqT ?c5_30) :: (St.eqT ?c5_31) :: (St.eqT ?c5_32) :: (St.eqT ?c5_33) :: (St.eqT ?c5_34) :: (St.eqT (.bool true)) :: (St.eqT ?c5_36) :: (St.eqT ?c5_37) :: []) rfl (by rfl) (fun w' => Below w0.heap.size w0 w' ∧ w'.heap[g]? = some (.cells #[.int .u64 h, .int .u64 n] 26 (0, 0)) ∧ w'.heap[gx]? = some (.cells #[.int .u64 x1, .int .u64 n1] 26 (0, 0))) (fun w w' => Below w.heap.size w w') ?hst ?h0 ?hB ?hop ?hend
  case hop =>
    refine ⟨?_, ?_, ?_, ?_, ?_, ?_, ?_, ?_, ?_, ?_, ?_, ?_, ?_, ?_, ?_, ?_, ?_, ?_, ?_, ?_, ?_, ?_, ?_, ?_, ?_, ?_, ?_, ?_, ?_, ?_, ?_, ?_, ?_, ?_, ?_, ?_, ?_, ?_, trivial⟩
    · intro w hB
      simp only [St.withD]
      have z0 : w.cell? ⟨g, 0, none⟩ = some (.int .u64 h) := (blk_cell hB.2.1 0).trans rfl
      have z1 : w.cell? ⟨g, 1, none⟩ = some (.int .u64 n) := (blk_cell hB.2.1 1).trans rfl
      have y0 : w.cell? ⟨gx, 0, none⟩ = some (.int .u64 x1) := (blk_cell hB.2.2 0).trans rfl
      have y1 : w.cell? ⟨gx, 1, none⟩ = some (.int .u64 n1) := (blk_cell hB.2.2 1).trans rfl
      refine St.ob_value (v := ?_) (w' := w) (by rfl) ?_ ⟨Below.refl _ _, ?_⟩
      rotate_left
      · go_simp
        with_reducible rfl
      · rfl
    · intro w hB
      simp only [St.withD]
      have z0 : w.cell? ⟨g, 0, none⟩ = some (.int .u64 h) := (blk_cell hB.2.1 0).trans rfl
      have z1 : w.cell? ⟨g, 1, none⟩ = some (.int .u64 n) := (blk_cell hB.2.1 1).trans rfl
      have y0 : w.cell? ⟨gx, 0, none⟩ = some (.int .u64 x1) := (blk_cell hB.2.2 0).trans rfl
      have y1 : w.cell? ⟨gx, 1, none⟩ = some (.int .u64 n1) := (blk_cell hB.2.2 1).trans rfl
      refine St.ob_value (v := ?_) (w' := w) (by rfl) ?_ ⟨Below.refl _ _, ?_⟩
      rotate_left
      · go_simp
        with_reducible rfl
      · rfl
    · intro w hB
      simp only [St.withD]
      refine St.ob_value (v := ?_) (w' := w) (by rfl) ?_ ⟨Below.refl _ _, ?_⟩
      rotate_left
      · go_simp
        with_reducible rfl
      · rfl
    · intro w hB; rintro _ ⟨_, rfl⟩
      simp only [St.withD, List.nil_append, List.cons_append, Act.put, List.setIfInBounds_toArray, List.set_cons_zero, List.set_cons_succ]
      refine St.ob_value (v := .slice (some ⟨w.heap.size, 0, none⟩) 1 1) (w' := w.alloc (.cells #[.int .u8 b] 5 (0, 0))) (by rfl) (by go_simp) ⟨below_alloc (Below.refl _ _) _, _, rfl, blk_new w _⟩
    · intro w hB; rintro v3 ⟨ds3, ht3⟩
      simp only [St.withD, List.nil_append, List.cons_append, Act.put, List.setIfInBounds_toArray, List.set_cons_zero, List.set_cons_succ]
      obtain ⟨g3, rfl, hk⟩ := ht3
      refine St.ob_value (v := .string (strOfNums [b])) (w' := w) (by rfl) ?_ ⟨Below.refl _ _, ?_⟩
      · have hcv := string_of_reads (P := Try.prog) (w := w) (src := 36) (dst := 9) (c := 1) Try.underlying36 Try.underlying5 Try.underlying9 (reads_one hk)
        go_simp
      · rfl
    · intro w hB; rintro _ ⟨_, rfl⟩ _ ⟨_, rfl⟩
      simp only [St.withD, List.nil_append, List.cons_append, Act.put, List.setIfInBounds_toArray, List.set_cons_zero, List.set_cons_succ]
      refine St.ob_call Try.func8 (by kernel_rfl) rfl #[.agg #[.int .u64 h, .int .u64 n], .string (strOfNums [b])] (by rfl) rfl (by (try simp only [List.map_toArray, List.map_cons, List.map_nil]); first | done | rfl | (simp only [List.length_drop, List.length_take]; rfl)) ?_
      refine (sum_State_Add.calls _ _ _ _ _ _ _ HA.out).mono ?_
      rintro e w1 ⟨rfl, hb⟩
      refine ⟨_, rfl, hb, ?_⟩
      rfl
    · intro w hB; rintro _ ⟨_, rfl⟩ _ ⟨_, rfl⟩
      simp only [St.withD, List.nil_append, List.cons_append, Act.put, List.setIfInBounds_toArray, List.set_cons_zero, List.set_cons_succ]
      refine St.ob_value (v := .bool true) (w' := w) (by rfl) ((run_eq26 rfl rfl rfl w).trans (by simp)) ⟨Below.refl _ _, rfl⟩
    · intro w hB; rintro _ ⟨_, rfl⟩
      simp only [St.withD, List.nil_append, List.cons_append, Act.put, List.setIfInBounds_toArray, List.set_cons_zero, List.set_cons_succ]
      refine St.ob_value (v := ?_) (w' := w) (by rfl) ?_ ⟨Below.refl _ _, ?_⟩
      rotate_left
      · go_simp
        with_reducible rfl
      · rfl
    · intro w hB; rintro _ ⟨_, rfl⟩
      simp only [St.withD, List.nil_append, List.cons_append, Act.put, List.setIfInBounds_toArray, List.set_cons_zero, List.set_cons_succ]
      refine St.ob_value (v := ?_) (w' := w) (by rfl) ?_ ⟨Below.refl _ _, ?_⟩
      rotate_left
      · go_simp
        with_reducible rfl
      · rfl
    · intro w hB; rintro _ ⟨_, rfl⟩ _ ⟨_, rfl⟩
      simp only [St.withD, List.nil_append, List.cons_append, Act.put, List.setIfInBounds_toArray, List.set_cons_zero, List.set_cons_succ]
      have z0 : w.cell? ⟨g, 0, none⟩ = some (.int .u64 h) := (blk_cell hB.2.1 0).trans rfl
      have z1 : w.cell? ⟨g, 1, none⟩ = some (.int .u64 n) := (blk_cell hB.2.1 1).trans rfl
      have y0 : w.cell? ⟨gx, 0, none⟩ = some (.int .u64 x1) := (blk_cell hB.2.2 0).trans rfl
      have y1 : w.cell? ⟨gx, 1, none⟩ = some (.int .u64 n1) := (blk_cell hB.2.2 1).trans rfl
      refine St.ob_value (v := ?_) (w' := w) (by rfl) ?_ ⟨Below.refl _ _, ?_⟩
      rotate_left
      · go_simp
        with_reducible rfl
      · rfl
    · intro w hB; rintro _ ⟨_, rfl⟩
      simp only [St.withD, List.nil_append, List.cons_append, Act.put, List.setIfInBounds_toArray, List.set_cons_zero, List.set_cons_succ]
      refine St.ob_value (v := ?_) (w' := w) (by rfl) ?_ ⟨Below.refl _ _, ?_⟩
      rotate_left
      · go_simp
        with_reducible rfl
      · rfl
    · intro w hB; rintro _ ⟨_, rfl⟩ _ ⟨_, rfl⟩
      simp only [St.withD, List.nil_append, List.cons_append, Act.put, List.setIfInBounds_toArray, List.set_cons_zero, List.set_cons_succ]
      refine St.ob_value (v := ?_) (w' := w) (by rfl) ?_ ⟨Below.refl _ _, ?_⟩
      rotate_left
      · go_simp
        with_reducible rfl
      · rfl
    · intro w hB; rintro _ ⟨_, rfl⟩ _ ⟨_, rfl⟩ _ ⟨_, rfl⟩
      simp only [St.withD, List.nil_append, List.cons_append, Act.put, List.setIfInBounds_toArray, List.set_cons_zero, List.set_cons_succ]
      refine St.ob_value (v := ?_) (w' := w) (by rfl) ?_ ⟨Below.refl _ _, ?_⟩
      rotate_left
      · go_simp
        with_reducible rfl
      · rfl
    · intro w hB; rintro _ ⟨_, rfl⟩ _ ⟨_, rfl⟩
      simp only [St.withD, List.nil_append, List.cons_append, Act.put, List.setIfInBounds_toArray, List.set_cons_zero, List.set_cons_succ]
      refine St.ob_value (v := ?_) (w' := w) (by rfl) ?_ ⟨Below.refl _ _, ?_⟩
      rotate_left
      · go_simp
        with_reducible rfl
      · rfl
    · intro w hB; rintro _ ⟨_, rfl⟩
      simp only [St.withD, List.nil_append, List.cons_append, Act.put, List.setIfInBounds_toArray, List.set_cons_zero, List.set_cons_succ]
      refine St.ob_value (v := ?_) (w' := w) (by rfl) ?_ ⟨Below.refl _ _, ?_⟩
      rotate_left
      · go_simp
        with_reducible rfl
      · rfl
    · intro w hB; rintro _ ⟨_, rfl⟩
      simp only [St.withD, List.nil_append, List.cons_append, Act.put, List.setIfInBounds_toArray, List.set_cons_zero, List.set_cons_succ]
      have z0 : w.cell? ⟨g, 0, none⟩ = some (.int .u64 h) := (blk_cell hB.2.1 0).trans rfl
      have z1 : w.cell? ⟨g, 1, none⟩ = some (.int .u64 n) := (blk_cell hB.2.1 1).trans rfl
      have y0 : w.cell? ⟨gx, 0, none⟩ = some (.int .u64 x1) := (blk_cell hB.2.2 0).trans rfl
      have y1 : w.cell? ⟨gx, 1, none⟩ = some (.int .u64 n1) := (blk_cell hB.2.2 1).trans rfl
      refine St.ob_value (v := ?_) (w' := w) (by rfl) ?_ ⟨Below.refl _ _, ?_⟩
      rotate_left
      · go_simp
        with_reducible rfl
      · rfl
    · intro w hB; rintro _ ⟨_, rfl⟩
      simp only [St.withD, List.nil_append, List.cons_append, Act.put, List.setIfInBounds_toArray, List.set_cons_zero, List.set_cons_succ]
      refine St.ob_value (v := ?_) (w' := w) (by rfl) ?_ ⟨Below.refl _ _, ?_⟩
      rotate_left
      · go_simp
        with_reducible rfl
      · rfl
    · intro w hB; rintro _ ⟨_, rfl⟩
      simp only [St.withD, List.nil_append, List.cons_append, Act.put, List.setIfInBounds_toArray, List.set_cons_zero, List.set_cons_succ]
      refine St.ob_value (v := ?_) (w' := w) (by rfl) ?_ ⟨Below.refl _ _, ?_⟩
      rotate_left
      · go_simp
        with_reducible rfl
      · rfl
    · intro w hB; rintro _ ⟨_, rfl⟩ _ ⟨_, rfl⟩ _ ⟨_, rfl⟩
      simp only [St.withD, List.nil_append, List.cons_append, Act.put, List.setIfInBounds_toArray, List.set_cons_zero, List.set_cons_succ]
      refine St.ob_value (v := ?_) (w' := w) (by rfl) ?_ ⟨Below.refl _ _, ?_⟩
      rotate_left
      · go_simp
        with_reducible rfl
      · rfl
    · intro w hB; rintro _ ⟨_, rfl⟩ _ ⟨_, rfl⟩ _ ⟨_, rfl⟩
      simp only [St.withD, List.nil_append, List.cons_append, Act.put, List.setIfInBounds_toArray, List.set_cons_zero, List.set_cons_succ]
      refine St.ob_value (v := .bool true) (w' := w) (by rfl) ((run_eq26 rfl rfl rfl w).trans (by simp)) ⟨Below.refl _ _, rfl⟩
    · intro w hB; rintro _ ⟨_, rfl⟩ _ ⟨_, rfl⟩
      simp only [St.withD, List.nil_append, List.cons_append, Act.put, List.setIfInBounds_toArray, List.set_cons_zero, List.set_cons_succ]
      refine St.ob_value (v := ?_) (w' := w) (by rfl) ?_ ⟨Below.refl _ _, ?_⟩
      rotate_left
      · go_simp
        with_reducible rfl
      · rfl
    · intro w hB; rintro _ ⟨_, rfl⟩
      simp only [St.withD, List.nil_append, List.cons_append, Act.put, List.setIfInBounds_toArray, List.set_cons_zero, List.set_cons_succ]
      refine St.ob_value (v := ?_) (w' := w) (by rfl) ?_ ⟨Below.refl _ _, ?_⟩
      rotate_left
      · go_simp
        with_reducible rfl
      · rfl
    · intro w hB; rintro _ ⟨_, rfl⟩
      simp only [St.withD, List.nil_append, List.cons_append, Act.put, List.setIfInBounds_toArray, List.set_cons_zero, List.set_cons_succ]
      have z0 : w.cell? ⟨g, 0, none⟩ = some (.int .u64 h) := (blk_cell hB.2.1 0).trans rfl
      have z1 : w.cell? ⟨g, 1, none⟩ = some (.int .u64 n) := (blk_cell hB.2.1 1).trans rfl
      have y0 : w.cell? ⟨gx, 0, none⟩ = some (.int .u64 x1) := (blk_cell hB.2.2 0).trans rfl
      have y1 : w.cell? ⟨gx, 1, none⟩ = some (.int .u64 n1) := (blk_cell hB.2.2 1).trans rfl
      refine St.ob_value (v := ?_) (w' := w) (by rfl) ?_ ⟨Below.refl _ _, ?_⟩
      rotate_left
      · go_simp
        with_reducible rfl
      · rfl
    · intro w hB; rintro _ ⟨_, rfl⟩ _ ⟨_, rfl⟩
      simp only [St.withD, List.nil_append, List.cons_append, Act.put, List.setIfInBounds_toArray, List.set_cons_zero, List.set_cons_succ]
      refine St.ob_call Try.func8 (by kernel_rfl) rfl #[.agg #[.int .u64 h, .int .u64 n], .string { data := #[] }] (by rfl) rfl (by (try simp only [List.map_toArray, List.map_cons, List.map_nil]); first | done | rfl | (simp only [List.length_drop, List.length_take]; rfl)) ?_
      refine (sum_State_Add.calls _ _ _ _ _ _ _ HE.out).mono ?_
      rintro e w1 ⟨rfl, hb⟩
      refine ⟨_, rfl, hb, ?_⟩
      rfl
    · intro w hB; rintro _ ⟨_, rfl⟩
      simp only [St.withD, List.nil_append, List.cons_append, Act.put, List.setIfInBounds_toArray, List.set_cons_zero, List.set_cons_succ]
      have z0 : w.cell? ⟨g, 0, none⟩ = some (.int .u64 h) := (blk_cell hB.2.1 0).trans rfl
      have z1 : w.cell? ⟨g, 1, none⟩ = some (.int .u64 n) := (blk_cell hB.2.1 1).trans rfl
      have y0 : w.cell? ⟨gx, 0, none⟩ = some (.int .u64 x1) := (blk_cell hB.2.2 0).trans rfl
      have y1 : w.cell? ⟨gx, 1, none⟩ = some (.int .u64 n1) := (blk_cell hB.2.2 1).trans rfl
      refine St.ob_value (v := ?_) (w' := w) (by rfl) ?_ ⟨Below.refl _ _, ?_⟩
      rotate_left
      · go_simp
        with_reducible rfl
      · rfl
    · intro w hB; rintro _ ⟨_, rfl⟩ _ ⟨_, rfl⟩ _ ⟨_, rfl⟩
      simp only [St.withD, List.nil_append, List.cons_append, Act.put, List.setIfInBounds_toArray, List.set_cons_zero, List.set_cons_succ]
      refine St.ob_value (v := .bool true) (w' := w) (by rfl) ((run_eq26 rfl rfl rfl w).trans (by simp)) ⟨Below.refl _ _, rfl⟩
    · intro w hB; rintro _ ⟨_, rfl⟩ _ ⟨_, rfl⟩
      simp only [St.withD, List.nil_append, List.cons_append, Act.put, List.setIfInBounds_toArray, List.set_cons_zero, List.set_cons_succ]
      refine St.ob_value (v := ?_) (w' := w) (by rfl) ?_ ⟨Below.refl _ _, ?_⟩
      rotate_left
      · go_simp
        with_reducible rfl
      · rfl
    · intro w hB; rintro _ ⟨_, rfl⟩
      simp only [St.withD, List.nil_append, List.cons_append, Act.put, List.setIfInBounds_toArray, List.set_cons_zero, List.set_cons_succ]
      refine St.ob_value (v := ?_) (w' := w) (by rfl) ?_ ⟨Below.refl _ _, ?_⟩
      rotate_left
      · go_simp
        with_reducible rfl
      · rfl
    · intro w hB; rintro _ ⟨_, rfl⟩
      simp only [St.withD, List.nil_append, List.cons_append, Act.put, List.setIfInBounds_toArray, List.set_cons_zero, List.set_cons_succ]
      have z0 : w.cell? ⟨g, 0, none⟩ = some (.int .u64 h) := (blk_cell hB.2.1 0).trans rfl
      have z1 : w.cell? ⟨g, 1, none⟩ = some (.int .u64 n) := (blk_cell hB.2.1 1).trans rfl
      have y0 : w.cell? ⟨gx, 0, none⟩ = some (.int .u64 x1) := (blk_cell hB.2.2 0).trans rfl
      have y1 : w.cell? ⟨gx, 1, none⟩ = some (.int .u64 n1) := (blk_cell hB.2.2 1).trans rfl
      refine St.ob_value (v := ?_) (w' := w) (by rfl) ?_ ⟨Below.refl _ _, ?_⟩
      rotate_left
      · go_simp
        with_reducible rfl
      · rfl
    · intro w hB; rintro _ ⟨_, rfl⟩ _ ⟨_, rfl⟩
      simp only [St.withD, List.nil_append, List.cons_append, Act.put, List.setIfInBounds_toArray, List.set_cons_zero, List.set_cons_succ]
      refine St.ob_call Try.func11 (by kernel_rfl) rfl #[.agg #[.int .u64 h, .int .u64 n]] (by rfl) rfl (by (try simp only [List.map_toArray, List.map_cons, List.map_nil]); first | done | rfl | (simp only [List.length_drop, List.length_take]; rfl)) ?_
      refine (sum_State_Sum.calls _ _ _ _ HS.out).mono ?_
      rintro e w1 ⟨rfl, hb⟩
      refine ⟨_, rfl, hb, ?_⟩
      rfl
    · intro w hB; rintro _ ⟨_, rfl⟩
      simp only [St.withD, List.nil_append, List.cons_append, Act.put, List.setIfInBounds_toArray, List.set_cons_zero, List.set_cons_succ]
      refine St.ob_value (v := ?_) (w' := w) (by rfl) ?_ ⟨Below.refl _ _, ?_⟩
      rotate_left
      · go_simp
        with_reducible rfl
      · rfl
    · intro w hB; rintro _ ⟨_, rfl⟩
      simp only [St.withD, List.nil_append, List.cons_append, Act.put, List.setIfInBounds_toArray, List.set_cons_zero, List.set_cons_succ]
      refine St.ob_value (v := ?_) (w' := w) (by rfl) ?_ ⟨Below.refl _ _, ?_⟩
      rotate_left
      · go_simp
        with_reducible rfl
      · rfl
    · intro w hB; rintro _ ⟨_, rfl⟩ _ ⟨_, rfl⟩ _ ⟨_, rfl⟩
      simp only [St.withD, List.nil_append, List.cons_append, Act.put, List.setIfInBounds_toArray, List.set_cons_zero, List.set_cons_succ]
      refine St.ob_value (v := ?_) (w' := w) (by rfl) ?_ ⟨Below.refl _ _, ?_⟩
      rotate_left
      · go_simp
        with_reducible rfl
      · rfl
    · intro w hB; rintro _ ⟨_, rfl⟩ _ ⟨_, rfl⟩
      simp only [St.withD, List.nil_append, List.cons_append, Act.put, List.setIfInBounds_toArray, List.set_cons_zero, List.set_cons_succ]
      refine St.ob_value (v := ?_) (w' := w) (by rfl) ?_ ⟨Below.refl _ _, ?_⟩
      rotate_left
      · go_simp
        with_reducible rfl
      · rfl
    · intro w hB; rintro _ ⟨_, rfl⟩ _ ⟨_, rfl⟩
      simp only [St.withD, List.nil_append, List.cons_append, Act.put, List.setIfInBounds_toArray, List.set_cons_zero, List.set_cons_succ]
      refine St.ob_call Try.func11 (by kernel_rfl) rfl #[.agg #[.int .u64 hn2, .int .u64 0]] (by rfl) rfl (by (try simp only [List.map_toArray, List.map_cons, List.map_nil]); first | done | rfl | (simp only [List.length_drop, List.length_take]; rfl)) ?_
      refine (sum_State_Sum.calls _ _ _ _ HT.out).mono ?_
      rintro e w1 ⟨rfl, hb⟩
      refine ⟨_, rfl, hb, ?_⟩
      rfl
    · intro w hB; rintro _ ⟨_, rfl⟩ _ ⟨_, rfl⟩ _ ⟨_, rfl⟩
      simp only [St.withD, List.nil_append, List.cons_append, Act.put, List.setIfInBounds_toArray, List.set_cons_zero, List.set_cons_succ]
      refine St.ob_value (v := ?_) (w' := w) (by rfl) ?_ ⟨Below.refl _ _, ?_⟩
      rotate_left
      · go_simp
        with_reducible rfl
      · rfl
    · intro w hB; rintro _ ⟨_, rfl⟩ _ ⟨_, rfl⟩
      simp only [St.withD, List.nil_append, List.cons_append, Act.put, List.setIfInBounds_toArray, List.set_cons_zero, List.set_cons_succ]
      refine St.ob_value (v := ?_) (w' := w) (by rfl) ?_ ⟨Below.refl _ _, ?_⟩
      rotate_left
      · go_simp
        with_reducible rfl
      · rfl
    · intro w hB; rintro _ ⟨_, rfl⟩
      simp only [St.withD, List.nil_append, List.cons_append, Act.put, List.setIfInBounds_toArray, List.set_cons_zero, List.set_cons_succ]
      refine St.ob_value (v := ?_) (w' := w) (by rfl) ?_ ⟨Below.refl _ _, ?_⟩
      rotate_left
      · go_simp
        with_reducible rfl
      · rfl
  case hst => exact ⟨St.eqT_st, St.eqT_st, St.eqT_st, fun ds v w w' h hR => by (obtain ⟨k, e, hk⟩ := h; exact ⟨k, e, blk_below hk hR⟩), St.eqT_st, St.eqT_st, St.eqT_st, St.eqT_st, St.eqT_st, St.eqT_st, St.eqT_st, St.eqT_st, St.eqT_st, St.eqT_st, St.eqT_st, St.eqT_st, St.eqT_st, St.eqT_st, St.eqT_st, St.eqT_st, St.eqT_st, St.eqT_st, St.eqT_st, St.eqT_st, St.eqT_st, St.eqT_st, St.eqT_st, St.eqT_st, St.eqT_st, St.eqT_st, St.eqT_st, St.eqT_st, St.eqT_st, St.eqT_st, St.eqT_st, St.eqT_st, St.eqT_st, St.eqT_st, trivial⟩
  case h0 => exact ⟨below_drew1 HB.out, blk_drew BK.out, blk_drew BX.out⟩
  case hB => exact fun w w' h hb => ⟨below_step h.1 hb, blk_below h.2.1 hb, blk_below h.2.2 hb⟩
  case hend =>
    intro w hB
    rintro _ rfl _ rfl _ rfl v3 ht3 _ rfl _ rfl _ rfl _ rfl _ rfl _ rfl _ rfl _ rfl _ rfl _ rfl _ rfl _ rfl _ rfl _ rfl _ rfl _ rfl _ rfl _ rfl _ rfl _ rfl _ rfl _ rfl _ rfl _ rfl _ rfl _ rfl _ rfl _ rfl _ rfl _ rfl _ rfl _ rfl _ rfl _ rfl
    simp only [List.map_cons, List.map_nil, List.nil_append, List.cons_append, List.getD_cons_zero, List.getD_cons_succ, Act.put, List.setIfInBounds_toArray, List.set_cons_zero, List.set_cons_succ]
    rw [St.withE_nil]
    have HB := Aside0.mk hB.1
    clear hB
    go_wp2
    go_ret
    exact ⟨rfl, HB.out⟩
end Go.Proofs.Ytfcpjblogeofpaa.PSumTexts
