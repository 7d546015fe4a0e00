/- The walk of SumTexts: it answers true. -/
import Derived.Test.YtfcpjblogeofpaaSumAwake
import Derived.Test.YtfcpjblogeofpaaSteadyT
namespace Go.Proofs.Ytfcpjblogeofpaa.PSumTexts
open Go.RowKit Go.Proofs.YtfcpjblogeofpaaW.PrintWords Go.Proofs.YtfcpjblogeofpaaW.PrintLast Go.Proofs.YtfcpjblogeofpaaW.PrintMore
set_option linter.unusedVariables false
set_option linter.unusedSimpArgs false

/-- A box of two cells stays one. -/
def Shape (w w' : World) : Prop := ∀ (g : Nat) (c0 c1 : Value), w.heap[g]? = some (.cells #[c0, c1] 26 (0, 0)) → ∃ d0 d1 : Value, w'.heap[g]? = some (.cells #[d0, d1] 26 (0, 0))
theorem shape_refl (w : World) : Shape w w := fun _ c0 c1 h => ⟨c0, c1, h⟩
theorem shape_set {w w' : World} (h : Shape w w') (g i : Nat) (v : Value) : Shape w (w'.setCell ⟨g, i, none⟩ v) := by
  intro k c0 c1 hk
  obtain ⟨d0, d1, hd⟩ := h k c0 c1 hk
  by_cases e : k = g
  · subst e
    have := blk_set hd i v
    match i with
    | 0 => exact ⟨v, d1, this⟩
    | 1 => exact ⟨d0, v, this⟩
    | i + 2 => exact ⟨d0, d1, this⟩
  · exact ⟨d0, d1, blk_far hd e v⟩
set_option maxHeartbeats 4000000 in
theorem texts_walk (t : ByteArray) (ht : t.size ≤ 140737488351232) (c : Int) (hc : (Lit.int .u16 c).wf = true) (w0 : World) :
    Calls Try.prog 3 #[.string t, .int .u16 c] w0 fun e w' => e = .returned (.bool true) ∧ Below w0.heap.size w0 w' := by
  have HB := Aside0.mk (Below.refl w0.heap.size w0)
  by_cases hbig : 300 < t.size
  · go_enter Try.func3, Try.ntmps3
    go_wp2_with ((go_at_call 6; refine (awake_any _).mono ?_; rintro e w1 ⟨rfl, hb⟩; have zz_HB := Aside0.mk (below_step HB.out hb); clear HB; have HB := zz_HB; clear zz_HB; clear hb))
    go_ret
    exact ⟨rfl, HB.out⟩
  · have e1 : IntKind.u16.min = 0 := rfl
    have e2 : IntKind.u16.max = 65535 := rfl
    have h0 : 0 ≤ c := by simp [Lit.wf] at hc; omega
    have h1 : c ≤ 65535 := by simp [Lit.wf] at hc; omega
    clear hc e1 e2
    have HN : Aside0 (sum_New.f = some (new0.1, new0.2)) := Aside0.mk rfl
    go_enter Try.func3, Try.ntmps3
    go_wp2_with ((go_at_call 6; refine (awake_any _).mono ?_; rintro e w1 ⟨rfl, hb⟩; have zz_HB := Aside0.mk (below_step HB.out hb); clear HB; have HB := zz_HB; clear zz_HB; clear hb))
    obtain ⟨k, hk⟩ : ∃ k : Nat, (k : Int) = c % ((t.size : Int) + 1) := ⟨(c % ((t.size : Int) + 1)).toNat, by have := Int.emod_nonneg c (show (t.size : Int) + 1 ≠ 0 by omega); omega⟩
    rw [← hk]
    have hkn : k ≤ t.size := by have := Int.emod_lt_of_pos c (show 0 < (t.size : Int) + 1 by omega); omega
    have HK := Aside0.mk hk
    clear hk
    have HA := Aside0.mk (add_f (t.extract 0 k) new0 (by rw [ByteArray.size_extract]; omega))
    rw [stA_head t new0 k hkn] at HA
    refine St.steadyW (n := 7) (by kernel_rfl) ([] :: [] :: [] :: [(1, 19), (2, 20)] :: [(0, 18), (3, 21)] :: [] :: [(4, 22), (5, 6)] :: []) (some 18 :: some 19 :: some 20 :: some 21 :: some 22 :: some 6 :: none :: []) (by kernel_rfl) 6 (0 :: 0 :: 0 :: 0 :: 0 :: 0 :: 1 :: []) (by kernel_rfl) rfl (by decide) ((St.eqT ?c6_0) :: (St.eqT ?c6_1) :: (St.eqT ?c6_2) :: (St.eqT ?c6_3) :: (St.eqT ?c6_4) :: (fun _ v w => ∃ g : Nat, v = .pointer (some ⟨g, 0, none⟩) ∧ w0.heap.size ≤ g ∧ ∃ c0 c1 : Value, w.heap[g]? = some (.cells #[c0, c1] 26 (0, 0))) :: (fun ds _ w => ∃ g : Nat, ds.getD 1 undef = .pointer (some ⟨g, 0, none⟩) ∧ w0.heap.size ≤ g ∧ w.heap[g]? = some (.cells #[.int .u64 (stA t new0 k).1, .int .u64 (stA t new0 k).2] 26 (0, 0))) :: []) rfl (by rfl) (fun w' => Below w0.heap.size w0 w') (fun w w' => Below w.heap.size w w') (Shape) (fun w' => Below w0.heap.size w0 w') (fun w w' => w = w') ?hst ?h0 ?hB ?hC ?hop ?hend
    case hop =>
      refine ⟨?_, ?_, ?_, ?_, ?_, ?_, ?_, trivial⟩
      · intro w hB
        simp only [St.withD]
        refine St.ob_call Try.func7 (by kernel_rfl) rfl #[] (by rfl) rfl (by (try simp only [List.map_toArray, List.map_cons, List.map_nil]); first | done | rfl | (simp only [List.length_drop, List.length_take]; rfl)) ?_
        refine (sum_New.calls new0.1 new0.2 _ HN.out).mono ?_
        rintro e w1 ⟨rfl, hb⟩
        refine ⟨_, rfl, hb, ?_⟩
        rfl
      · intro w hB
        simp only [St.withD]
        refine St.ob_value (v := ?_) (w' := w) (by rfl) ?_ ⟨Below.refl _ _, ?_⟩
        rotate_left
        · go_simp
          with_reducible rfl
        · rfl
      · intro w hB
        simp only [St.withD]
        refine St.ob_value (v := ?_) (w' := w) (by rfl) ?_ ⟨Below.refl _ _, ?_⟩
        rotate_left
        · go_simp
          with_reducible rfl
        · rfl
      · intro w hB; rintro _ ⟨_, rfl⟩ _ ⟨_, rfl⟩
        simp only [St.withD, List.nil_append, List.cons_append, Act.put, List.setIfInBounds_toArray, List.set_cons_zero, List.set_cons_succ]
        refine St.ob_value (v := ?_) (w' := w) (by rfl) ?_ ⟨Below.refl _ _, ?_⟩
        rotate_left
        · go_simp
          with_reducible rfl
        · rfl
      · intro w hB; rintro _ ⟨_, rfl⟩ _ ⟨_, rfl⟩
        simp only [St.withD, List.nil_append, List.cons_append, Act.put, List.setIfInBounds_toArray, List.set_cons_zero, List.set_cons_succ]
        refine St.ob_call Try.func8 (by kernel_rfl) rfl #[.agg #[.int .u64 new0.1, .int .u64 new0.2], .string (t.extract 0 k)] (by rfl) rfl (by (try simp only [List.map_toArray, List.map_cons, List.map_nil]); first | done | rfl | (simp only [List.length_drop, List.length_take]; rfl)) ?_
        refine (sum_State_Add.calls _ _ _ _ _ _ _ HA.out).mono ?_
        rintro e w1 ⟨rfl, hb⟩
        refine ⟨_, rfl, hb, ?_⟩
        rfl
      · intro w hB
        simp only [St.withD]
        refine St.ob_value (v := .pointer (some ⟨w.heap.size, 0, none⟩)) (w' := w.alloc (.cells #[.int .u64 0, .int .u64 0] 26 (0, 0))) (by rfl) (by go_simp) ⟨below_alloc (Below.refl _ _) _, _, rfl, below_size hB, _, _, blk_new w _⟩
      · intro w hB; rintro _ ⟨_, rfl⟩ v5 ⟨ds5, ht5⟩
        simp only [St.withD, List.nil_append, List.cons_append, Act.put, List.setIfInBounds_toArray, List.set_cons_zero, List.set_cons_succ]
        obtain ⟨g, rfl, hg, c0, c1, hbk⟩ := ht5
        have x0 : w.cell? ⟨g, 0, none⟩ = some c0 := (blk_cell hbk 0).trans rfl
        have x1 : w.cell? ⟨g, 1, none⟩ = some c1 := (blk_cell hbk 1).trans rfl
        have f0 := blk_frozen hbk 0
        have f1 := blk_frozen hbk 1
        refine St.ob_skip (w' := (w.setCell ⟨g, 0, none⟩ (.int .u64 (stA t new0 k).1)).setCell ⟨g, 1, none⟩ (.int .u64 (stA t new0 k).2)) (by rfl) ?_ ⟨⟨shape_set (shape_set (shape_refl w) g 0 _) g 1 _, below_set (below_set hB hg) hg⟩, g, rfl, hg, blk_put (cs' := #[.int .u64 (stA t new0 k).1, .int .u64 (stA t new0 k).2]) (blk_put (cs' := #[.int .u64 (stA t new0 k).1, c1]) hbk 0 _ rfl) 1 _ rfl⟩
        go_simp
    case hst => exact ⟨St.eqT_st, St.eqT_st, St.eqT_st, St.eqT_st, St.eqT_st, fun ds v w w' h hR => by (obtain ⟨g, e, hg, c0, c1, hbk⟩ := h; rcases hR with ⟨_, hb | ⟨hs, _⟩⟩ | hw; exact ⟨g, e, hg, c0, c1, blk_below hbk hb⟩; exact ⟨g, e, hg, hs g c0 c1 hbk⟩; (subst hw; exact ⟨g, e, hg, c0, c1, hbk⟩)), fun ds v w w' h hR => by (rcases hR with ⟨hk, _⟩ | hw; exact absurd hk (by decide); (subst hw; exact h)), trivial⟩
    case h0 => exact below_drew1 HB.out
    case hB => exact fun w w' h hb => below_step h hb
    case hC => (intro w w' h e; subst e; exact h)
    case hend =>
      intro w hB
      rintro _ rfl _ rfl _ rfl _ rfl _ rfl v5 ht5 v6 ht6
      simp only [List.map_cons, List.map_nil, List.nil_append, List.cons_append, List.getD_cons_zero, List.getD_cons_succ, Act.put, List.setIfInBounds_toArray, List.set_cons_zero, List.set_cons_succ]
      rw [St.withE_nil]
      obtain ⟨g, rfl, _, _, _, _⟩ := ht5
      obtain ⟨g', e, hg, hbk⟩ := ht6
      obtain rfl : g = g' := by simpa using e
      clear e
      have HBK := Aside0.mk hbk
      have HB := Aside0.mk hB
      have HX := Aside0.mk (of_f t ht)
      have HY := Aside0.mk (ref_f t ht)
      have HS := Aside0.mk (sum_f (stA t new0 t.size))
      have HT := Aside0.mk (add_f (t.extract k t.size) (stA t new0 k) (by rw [ByteArray.size_extract]; omega))
      rw [stA_tail t new0 k hkn] at HT
      have HZ := Aside0.mk (ref_f (t.extract 0 k) (by rw [ByteArray.size_extract]; omega))
      rw [stA_head t new0 k hkn] at HZ
      have HW := Aside0.mk (sum_f (stA t new0 k))
      rw [stA_count t k (by omega)] at HT HW HBK
      have hw64 : IntKind.u64.wrap (k : Int) = k := u64_small (by omega) (by omega)
      clear hB hbk
      go_wp2
      refine St.steadyR (n := 33) (by kernel_rfl) ([] :: [(0, 23)] :: [] :: [(2, 25)] :: [(1, 24), (3, 26)] :: [(4, 27)] :: [(5, 28)] :: [(5, 28)] :: [(5, 28)] :: [(5, 28), (7, 30), (8, 31)] :: [(5, 28), (6, 29), (9, 32)] :: [(5, 28), (10, 33)] :: [(5, 28)] :: [(5, 28), (12, 35)] :: [(5, 28), (11, 34), (13, 36)] :: [(5, 28), (14, 37)] :: [(15, 38)] :: [(16, 39)] :: [(16, 39), (17, 40)] :: [(16, 39)] :: [(16, 39)] :: [(16, 39), (19, 42), (20, 43)] :: [(16, 39), (21, 44)] :: [(16, 39), (18, 41), (22, 45)] :: [(16, 39), (23, 46)] :: [(24, 47)] :: [(25, 48)] :: [(25, 48), (26, 49)] :: [(25, 48)] :: [(25, 48), (28, 51)] :: [(25, 48), (27, 50), (29, 52)] :: [(25, 48), (30, 53)] :: [(31, 54)] :: []) (some 23 :: some 24 :: some 25 :: some 26 :: some 27 :: some 28 :: some 29 :: some 30 :: some 31 :: some 32 :: some 33 :: some 34 :: some 35 :: some 36 :: some 37 :: some 38 :: some 39 :: some 40 :: some 41 :: some 42 :: some 43 :: some 44 :: some 45 :: some 46 :: some 47 :: some 48 :: some 49 :: some 50 :: some 51 :: some 52 :: some 53 :: some 54 :: some 4 :: []) (by kernel_rfl) ((St.eqT ?c7_0) :: (St.eqT ?c7_1) :: (St.eqT ?c7_2) :: (St.eqT ?c7_3) :: (St.eqT (.bool true)) :: (St.eqT ?c7_5) :: (St.eqT ?c7_6) :: (St.eqT ?c7_7) :: (St.eqT ?c7_8) :: (St.eqT ?c7_9) :: (St.eqT ?c7_10) :: (St.eqT ?c7_11) :: (St.eqT ?c7_12) :: (St.eqT ?c7_13) :: (St.eqT (.bool true)) :: (St.eqT ?c7_15) :: (St.eqT ?c7_16) :: (St.eqT ?c7_17) :: (St.eqT ?c7_18) :: (St.eqT ?c7_19) :: (St.eqT ?c7_20) :: (St.eqT ?c7_21) :: (St.eqT ?c7_22) :: (St.eqT (.bool true)) :: (St.eqT ?c7_24) :: (St.eqT ?c7_25) :: (St.eqT ?c7_26) :: (St.eqT ?c7_27) :: (St.eqT ?c7_28) :: (St.eqT ?c7_29) :: (St.eqT (.bool true)) :: (St.eqT ?c7_31) :: (St.eqT ?c7_32) :: []) rfl (by rfl) (fun w' => Below w0.heap.size w0 w' ∧ w'.heap[g]? = some (.cells #[.int .u64 (stA t new0 k).1, .int .u64 (k : Int)] 26 (0, 0))) (fun w w' => Below w.heap.size w w') ?hst ?h0 ?hB ?hop ?hend
      case hop =>
        refine ⟨?_, ?_, ?_, ?_, ?_, ?_, ?_, ?_, ?_, ?_, ?_, ?_, ?_, ?_, ?_, ?_, ?_, ?_, ?_, ?_, ?_, ?_, ?_, ?_, ?_, ?_, ?_, ?_, ?_, ?_, ?_, ?_, ?_, trivial⟩
        · intro w hB
          simp only [St.withD]
          refine St.ob_value (v := ?_) (w' := w) (by rfl) ?_ ⟨Below.refl _ _, ?_⟩
          rotate_left
          · go_simp
            with_reducible rfl
          · rfl
        · intro w hB; rintro _ ⟨_, rfl⟩
          simp only [St.withD, List.nil_append, List.cons_append, Act.put, List.setIfInBounds_toArray, List.set_cons_zero, List.set_cons_succ]
          refine St.ob_call Try.func9 (by kernel_rfl) rfl #[.string t] (by rfl) rfl (by (try simp only [List.map_toArray, List.map_cons, List.map_nil]); first | done | rfl | (simp only [List.length_drop, List.length_take]; rfl)) ?_
          refine (sum_Of.calls _ _ _ _ HX.out).mono ?_
          rintro e w1 ⟨rfl, hb⟩
          refine ⟨_, rfl, hb, ?_⟩
          rfl
        · intro w hB
          simp only [St.withD]
          refine St.ob_value (v := ?_) (w' := w) (by rfl) ?_ ⟨Below.refl _ _, ?_⟩
          rotate_left
          · go_simp
            with_reducible rfl
          · rfl
        · intro w hB; rintro _ ⟨_, rfl⟩
          simp only [St.withD, List.nil_append, List.cons_append, Act.put, List.setIfInBounds_toArray, List.set_cons_zero, List.set_cons_succ]
          refine St.ob_call Try.func10 (by kernel_rfl) rfl #[.string t] (by rfl) rfl (by (try simp only [List.map_toArray, List.map_cons, List.map_nil]); first | done | rfl | (simp only [List.length_drop, List.length_take]; rfl)) ?_
          refine (pemmicanref04_Of.calls _ _ _ _ HY.out).mono ?_
          rintro e w1 ⟨rfl, hb⟩
          refine ⟨_, rfl, hb.below, ?_⟩
          rfl
        · intro w hB; rintro _ ⟨_, rfl⟩ _ ⟨_, rfl⟩
          simp only [St.withD, List.nil_append, List.cons_append, Act.put, List.setIfInBounds_toArray, List.set_cons_zero, List.set_cons_succ]
          refine St.ob_value (v := ?_) (w' := w) (by rfl) ?_ ⟨Below.refl _ _, ?_⟩
          rotate_left
          · go_simp
            with_reducible rfl
          · rfl
        · intro w hB; rintro _ ⟨_, rfl⟩
          simp only [St.withD, List.nil_append, List.cons_append, Act.put, List.setIfInBounds_toArray, List.set_cons_zero, List.set_cons_succ]
          refine St.ob_value (v := ?_) (w' := w) (by rfl) ?_ ⟨Below.refl _ _, ?_⟩
          rotate_left
          · go_simp
            with_reducible rfl
          · rfl
        · intro w hB; rintro _ ⟨_, rfl⟩
          simp only [St.withD, List.nil_append, List.cons_append, Act.put, List.setIfInBounds_toArray, List.set_cons_zero, List.set_cons_succ]
          have x0 : w.cell? ⟨g, 0, none⟩ = some (.int .u64 (stA t new0 k).1) := (blk_cell hB.2 0).trans rfl
          have x1 : w.cell? ⟨g, 1, none⟩ = some (.int .u64 (k : Int)) := (blk_cell hB.2 1).trans rfl
          refine St.ob_value (v := ?_) (w' := w) (by rfl) ?_ ⟨Below.refl _ _, ?_⟩
          rotate_left
          · go_simp
            with_reducible rfl
          · rfl
        · intro w hB; rintro _ ⟨_, rfl⟩
          simp only [St.withD, List.nil_append, List.cons_append, Act.put, List.setIfInBounds_toArray, List.set_cons_zero, List.set_cons_succ]
          refine St.ob_value (v := ?_) (w' := w) (by rfl) ?_ ⟨Below.refl _ _, ?_⟩
          rotate_left
          · go_simp
            with_reducible rfl
          · rfl
        · intro w hB; rintro _ ⟨_, rfl⟩
          simp only [St.withD, List.nil_append, List.cons_append, Act.put, List.setIfInBounds_toArray, List.set_cons_zero, List.set_cons_succ]
          refine St.ob_value (v := ?_) (w' := w) (by rfl) ?_ ⟨Below.refl _ _, ?_⟩
          rotate_left
          · go_simp
            with_reducible rfl
          · rfl
        · intro w hB; rintro _ ⟨_, rfl⟩ _ ⟨_, rfl⟩ _ ⟨_, rfl⟩
          simp only [St.withD, List.nil_append, List.cons_append, Act.put, List.setIfInBounds_toArray, List.set_cons_zero, List.set_cons_succ]
          refine St.ob_value (v := ?_) (w' := w) (by rfl) ?_ ⟨Below.refl _ _, ?_⟩
          rotate_left
          · go_simp
            with_reducible rfl
          · rfl
        · intro w hB; rintro _ ⟨_, rfl⟩ _ ⟨_, rfl⟩ _ ⟨_, rfl⟩
          simp only [St.withD, List.nil_append, List.cons_append, Act.put, List.setIfInBounds_toArray, List.set_cons_zero, List.set_cons_succ]
          refine St.ob_call Try.func8 (by kernel_rfl) rfl #[.agg #[.int .u64 (stA t new0 k).1, .int .u64 (k : Int)], .string (t.extract k t.size)] (by rfl) rfl (by (try simp only [List.map_toArray, List.map_cons, List.map_nil]); first | done | rfl | (simp only [List.length_drop, List.length_take]; rfl)) ?_
          refine (sum_State_Add.calls _ _ _ _ _ _ _ HT.out).mono ?_
          rintro e w1 ⟨rfl, hb⟩
          refine ⟨_, rfl, hb, ?_⟩
          rfl
        · intro w hB; rintro _ ⟨_, rfl⟩ _ ⟨_, rfl⟩
          simp only [St.withD, List.nil_append, List.cons_append, Act.put, List.setIfInBounds_toArray, List.set_cons_zero, List.set_cons_succ]
          refine St.ob_call Try.func11 (by kernel_rfl) rfl #[.agg #[.int .u64 (stA t new0 t.size).1, .int .u64 (stA t new0 t.size).2]] (by rfl) rfl (by (try simp only [List.map_toArray, List.map_cons, List.map_nil]); first | done | rfl | (simp only [List.length_drop, List.length_take]; rfl)) ?_
          refine (sum_State_Sum.calls _ _ _ _ HS.out).mono ?_
          rintro e w1 ⟨rfl, hb⟩
          refine ⟨_, rfl, hb, ?_⟩
          rfl
        · intro w hB; rintro _ ⟨_, rfl⟩
          simp only [St.withD, List.nil_append, List.cons_append, Act.put, List.setIfInBounds_toArray, List.set_cons_zero, List.set_cons_succ]
          refine St.ob_value (v := ?_) (w' := w) (by rfl) ?_ ⟨Below.refl _ _, ?_⟩
          rotate_left
          · go_simp
            with_reducible rfl
          · rfl
        · intro w hB; rintro _ ⟨_, rfl⟩ _ ⟨_, rfl⟩
          simp only [St.withD, List.nil_append, List.cons_append, Act.put, List.setIfInBounds_toArray, List.set_cons_zero, List.set_cons_succ]
          refine St.ob_call Try.func10 (by kernel_rfl) rfl #[.string t] (by rfl) rfl (by (try simp only [List.map_toArray, List.map_cons, List.map_nil]); first | done | rfl | (simp only [List.length_drop, List.length_take]; rfl)) ?_
          refine (pemmicanref04_Of.calls _ _ _ _ HY.out).mono ?_
          rintro e w1 ⟨rfl, hb⟩
          refine ⟨_, rfl, hb.below, ?_⟩
          rfl
        · intro w hB; rintro _ ⟨_, rfl⟩ _ ⟨_, rfl⟩ _ ⟨_, rfl⟩
          simp only [St.withD, List.nil_append, List.cons_append, Act.put, List.setIfInBounds_toArray, List.set_cons_zero, List.set_cons_succ]
          refine St.ob_value (v := ?_) (w' := w) (by rfl) ?_ ⟨Below.refl _ _, ?_⟩
          rotate_left
          · go_simp
            with_reducible rfl
          · rfl
        · intro w hB; rintro _ ⟨_, rfl⟩ _ ⟨_, rfl⟩
          simp only [St.withD, List.nil_append, List.cons_append, Act.put, List.setIfInBounds_toArray, List.set_cons_zero, List.set_cons_succ]
          refine St.ob_value (v := ?_) (w' := w) (by rfl) ?_ ⟨Below.refl _ _, ?_⟩
          rotate_left
          · go_simp
            with_reducible rfl
          · rfl
        · intro w hB; rintro _ ⟨_, rfl⟩
          simp only [St.withD, List.nil_append, List.cons_append, Act.put, List.setIfInBounds_toArray, List.set_cons_zero, List.set_cons_succ]
          refine St.ob_value (v := ?_) (w' := w) (by rfl) ?_ ⟨Below.refl _ _, ?_⟩
          rotate_left
          · go_simp
            with_reducible rfl
          · rfl
        · intro w hB; rintro _ ⟨_, rfl⟩
          simp only [St.withD, List.nil_append, List.cons_append, Act.put, List.setIfInBounds_toArray, List.set_cons_zero, List.set_cons_succ]
          have x0 : w.cell? ⟨g, 0, none⟩ = some (.int .u64 (stA t new0 k).1) := (blk_cell hB.2 0).trans rfl
          have x1 : w.cell? ⟨g, 1, none⟩ = some (.int .u64 (k : Int)) := (blk_cell hB.2 1).trans rfl
          refine St.ob_value (v := ?_) (w' := w) (by rfl) ?_ ⟨Below.refl _ _, ?_⟩
          rotate_left
          · go_simp
            with_reducible rfl
          · rfl
        · intro w hB; rintro _ ⟨_, rfl⟩ _ ⟨_, rfl⟩
          simp only [St.withD, List.nil_append, List.cons_append, Act.put, List.setIfInBounds_toArray, List.set_cons_zero, List.set_cons_succ]
          refine St.ob_call Try.func11 (by kernel_rfl) rfl #[.agg #[.int .u64 (stA t new0 k).1, .int .u64 (k : Int)]] (by rfl) rfl (by (try simp only [List.map_toArray, List.map_cons, List.map_nil]); first | done | rfl | (simp only [List.length_drop, List.length_take]; rfl)) ?_
          refine (sum_State_Sum.calls _ _ _ _ HW.out).mono ?_
          rintro e w1 ⟨rfl, hb⟩
          refine ⟨_, rfl, hb, ?_⟩
          rfl
        · intro w hB; rintro _ ⟨_, rfl⟩
          simp only [St.withD, List.nil_append, List.cons_append, Act.put, List.setIfInBounds_toArray, List.set_cons_zero, List.set_cons_succ]
          refine St.ob_value (v := ?_) (w' := w) (by rfl) ?_ ⟨Below.refl _ _, ?_⟩
          rotate_left
          · go_simp
            with_reducible rfl
          · rfl
        · intro w hB; rintro _ ⟨_, rfl⟩
          simp only [St.withD, List.nil_append, List.cons_append, Act.put, List.setIfInBounds_toArray, List.set_cons_zero, List.set_cons_succ]
          refine St.ob_value (v := ?_) (w' := w) (by rfl) ?_ ⟨Below.refl _ _, ?_⟩
          rotate_left
          · go_simp
            with_reducible rfl
          · rfl
        · intro w hB; rintro _ ⟨_, rfl⟩ _ ⟨_, rfl⟩ _ ⟨_, rfl⟩
          simp only [St.withD, List.nil_append, List.cons_append, Act.put, List.setIfInBounds_toArray, List.set_cons_zero, List.set_cons_succ]
          refine St.ob_value (v := ?_) (w' := w) (by rfl) ?_ ⟨Below.refl _ _, ?_⟩
          rotate_left
          · go_simp
            with_reducible rfl
          · rfl
        · intro w hB; rintro _ ⟨_, rfl⟩ _ ⟨_, rfl⟩
          simp only [St.withD, List.nil_append, List.cons_append, Act.put, List.setIfInBounds_toArray, List.set_cons_zero, List.set_cons_succ]
          refine St.ob_call Try.func10 (by kernel_rfl) rfl #[.string (t.extract 0 k)] (by rfl) rfl (by (try simp only [List.map_toArray, List.map_cons, List.map_nil]); first | done | rfl | (simp only [List.length_drop, List.length_take]; rfl)) ?_
          refine (pemmicanref04_Of.calls _ _ _ _ HZ.out).mono ?_
          rintro e w1 ⟨rfl, hb⟩
          refine ⟨_, rfl, hb.below, ?_⟩
          rfl
        · intro w hB; rintro _ ⟨_, rfl⟩ _ ⟨_, rfl⟩ _ ⟨_, rfl⟩
          simp only [St.withD, List.nil_append, List.cons_append, Act.put, List.setIfInBounds_toArray, List.set_cons_zero, List.set_cons_succ]
          refine St.ob_value (v := ?_) (w' := w) (by rfl) ?_ ⟨Below.refl _ _, ?_⟩
          rotate_left
          · go_simp
            with_reducible rfl
          · rfl
        · intro w hB; rintro _ ⟨_, rfl⟩ _ ⟨_, rfl⟩
          simp only [St.withD, List.nil_append, List.cons_append, Act.put, List.setIfInBounds_toArray, List.set_cons_zero, List.set_cons_succ]
          refine St.ob_value (v := ?_) (w' := w) (by rfl) ?_ ⟨Below.refl _ _, ?_⟩
          rotate_left
          · go_simp
            with_reducible rfl
          · rfl
        · intro w hB; rintro _ ⟨_, rfl⟩
          simp only [St.withD, List.nil_append, List.cons_append, Act.put, List.setIfInBounds_toArray, List.set_cons_zero, List.set_cons_succ]
          refine St.ob_value (v := ?_) (w' := w) (by rfl) ?_ ⟨Below.refl _ _, ?_⟩
          rotate_left
          · go_simp
            with_reducible rfl
          · rfl
        · intro w hB; rintro _ ⟨_, rfl⟩
          simp only [St.withD, List.nil_append, List.cons_append, Act.put, List.setIfInBounds_toArray, List.set_cons_zero, List.set_cons_succ]
          refine St.ob_value (v := ?_) (w' := w) (by rfl) ?_ ⟨Below.refl _ _, ?_⟩
          rotate_left
          · go_simp
            with_reducible rfl
          · rfl
        · intro w hB; rintro _ ⟨_, rfl⟩ _ ⟨_, rfl⟩
          simp only [St.withD, List.nil_append, List.cons_append, Act.put, List.setIfInBounds_toArray, List.set_cons_zero, List.set_cons_succ]
          have x0 : w.cell? ⟨g, 0, none⟩ = some (.int .u64 (stA t new0 k).1) := (blk_cell hB.2 0).trans rfl
          have x1 : w.cell? ⟨g, 1, none⟩ = some (.int .u64 (k : Int)) := (blk_cell hB.2 1).trans rfl
          refine St.ob_value (v := ?_) (w' := w) (by rfl) ?_ ⟨Below.refl _ _, ?_⟩
          rotate_left
          · go_simp
            with_reducible rfl
          · rfl
        · intro w hB; rintro _ ⟨_, rfl⟩
          simp only [St.withD, List.nil_append, List.cons_append, Act.put, List.setIfInBounds_toArray, List.set_cons_zero, List.set_cons_succ]
          refine St.ob_value (v := ?_) (w' := w) (by rfl) ?_ ⟨Below.refl _ _, ?_⟩
          rotate_left
          · go_simp
            with_reducible rfl
          · rfl
        · intro w hB; rintro _ ⟨_, rfl⟩ _ ⟨_, rfl⟩
          simp only [St.withD, List.nil_append, List.cons_append, Act.put, List.setIfInBounds_toArray, List.set_cons_zero, List.set_cons_succ]
          refine St.ob_value (v := ?_) (w' := w) (by rfl) ?_ ⟨Below.refl _ _, ?_⟩
          rotate_left
          · go_simp
            with_reducible rfl
          · rfl
        · intro w hB; rintro _ ⟨_, rfl⟩ _ ⟨_, rfl⟩ _ ⟨_, rfl⟩
          simp only [St.withD, List.nil_append, List.cons_append, Act.put, List.setIfInBounds_toArray, List.set_cons_zero, List.set_cons_succ]
          refine St.ob_value (v := ?_) (w' := w) (by rfl) ?_ ⟨Below.refl _ _, ?_⟩
          rotate_left
          · go_simp
            with_reducible rfl
          · rfl
        · intro w hB; rintro _ ⟨_, rfl⟩ _ ⟨_, rfl⟩
          simp only [St.withD, List.nil_append, List.cons_append, Act.put, List.setIfInBounds_toArray, List.set_cons_zero, List.set_cons_succ]
          refine St.ob_value (v := ?_) (w' := w) (by rfl) ?_ ⟨Below.refl _ _, ?_⟩
          rotate_left
          · go_simp
            with_reducible rfl
          · rfl
        · intro w hB; rintro _ ⟨_, rfl⟩
          simp only [St.withD, List.nil_append, List.cons_append, Act.put, List.setIfInBounds_toArray, List.set_cons_zero, List.set_cons_succ]
          refine St.ob_value (v := ?_) (w' := w) (by rfl) ?_ ⟨Below.refl _ _, ?_⟩
          rotate_left
          · go_simp
            with_reducible rfl
          · rfl
      case hst => exact ⟨St.eqT_st, St.eqT_st, St.eqT_st, St.eqT_st, St.eqT_st, St.eqT_st, St.eqT_st, St.eqT_st, St.eqT_st, St.eqT_st, St.eqT_st, St.eqT_st, St.eqT_st, St.eqT_st, St.eqT_st, St.eqT_st, St.eqT_st, St.eqT_st, St.eqT_st, St.eqT_st, St.eqT_st, St.eqT_st, St.eqT_st, St.eqT_st, St.eqT_st, St.eqT_st, St.eqT_st, St.eqT_st, St.eqT_st, St.eqT_st, St.eqT_st, St.eqT_st, St.eqT_st, trivial⟩
      case h0 => exact ⟨below_drew1 HB.out, blk_drew HBK.out⟩
      case hB => exact fun w w' h hb => ⟨below_step h.1 hb, blk_below h.2 hb⟩
      case hend =>
        intro w hB
        rintro _ rfl _ rfl _ rfl _ rfl _ rfl _ rfl _ rfl _ rfl _ rfl _ rfl _ rfl _ rfl _ rfl _ rfl _ rfl _ rfl _ rfl _ rfl _ rfl _ rfl _ rfl _ rfl _ rfl _ rfl _ rfl _ rfl _ rfl _ rfl _ rfl _ rfl _ rfl _ rfl _ rfl
        simp only [List.map_cons, List.map_nil, List.nil_append, List.cons_append, List.getD_cons_zero, List.getD_cons_succ, Act.put, List.setIfInBounds_toArray, List.set_cons_zero, List.set_cons_succ]
        rw [St.withE_nil]
        have HB := Aside0.mk hB.1
        clear hB
        go_wp2
        go_ret
        exact ⟨rfl, HB.out⟩
end Go.Proofs.Ytfcpjblogeofpaa.PSumTexts
