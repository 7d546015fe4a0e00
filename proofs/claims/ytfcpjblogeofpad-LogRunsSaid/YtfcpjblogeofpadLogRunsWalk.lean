/- The walk of LogRuns: it answers true. -/
import Derived.Test.YtfcpjblogeofpadLogRunsA
namespace Go.Proofs.Ytfcpjblogeofpad
open Go.RowKit Go.Proofs.YtfcpjblogeofpadW.PrintWords Go.Proofs.YtfcpjblogeofpadW.PrintLast Go.Proofs.YtfcpjblogeofpadW.PrintMore Go.Proofs.Ytfcpjblogeofpad.Fr
set_option linter.unusedVariables false
set_option linter.unusedSimpArgs false

theorem same_self (A A' : Option Addr) (l : List ByteArray) (m ca cb : Nat) (hm : l.length = m) (w : World) (hA : RdS w A l) (hB : RdS w A' l) (hla : m ≤ 1000000) (hca : m ≤ ca) (hcb : m ≤ cb) :
    Calls Try.prog 19 #[.slice A m ca, .slice A' m cb] w fun e w' => e = .returned (.bool true) ∧ Drawn0 w w' := by
  subst hm
  refine (same_any A A' l l ca cb w hA hB hla hca hcb).mono fun e w' h => ⟨?_, h.2⟩
  rw [h.1, decide_eq_true rfl]
theorem Run.one {B : Nat} {a w : World} {g h gx : Nat} {o : Obj} {v u : Value} {l l2 : List ByteArray} {b b2 b' b2' : Nat} {bytes : Int} (x : Run B a g h gx o w v u l l2 b b2 bytes) (y : Run B a g h gx o w v u l l2 b' b2' bytes) : b = b' ∧ b2 = b2' := by
  have h1 := x.both.log.log.box.symm.trans y.both.log.log.box
  have h2 := x.both.ref.box.symm.trans y.both.ref.box
  simp at h1 h2
  exact ⟨by omega, by omega⟩
theorem total_small : ∀ (l : List ByteArray), (∀ s ∈ l, s.size ≤ 512) → 0 ≤ total l ∧ total l ≤ l.length * 512
  | [], _ => by simp [total]
  | s :: l, h => by
    have h1 := h s (List.mem_cons_self ..)
    have h2 := total_small l (fun x hx => h x (List.mem_cons_of_mem _ hx))
    simp only [total, List.map_cons, List.sum_cons, List.length_cons] at h2 ⊢
    omega
theorem total_push (l : List ByteArray) (s : ByteArray) : total l + addB s = total (pushL l s) := by
  unfold addB pushL
  split
  · simp
  · rw [total_snoc]
theorem push_all {l : List ByteArray} {s : ByteArray} {k b : Nat} (h : l.length ≤ k ∧ (∀ s ∈ l, s.size ≤ 512) ∧ b ≤ l.length) : (pushL l s).length ≤ k + 1 ∧ (∀ x ∈ pushL l s, x.size ≤ 512) ∧ b ≤ (pushL l s).length := by
  unfold pushL
  split
  · exact ⟨by omega, h.2.1, h.2.2⟩
  · refine ⟨by simp; omega, ?_, by simp; omega⟩
    intro x hx
    rcases List.mem_append.1 hx with hx | hx
    · exact h.2.1 x hx
    · rw [List.mem_singleton.1 hx]; omega
set_option maxRecDepth 100000 in
set_option maxHeartbeats 4000000 in
theorem runs_walk (A : Option Addr) (len ca : Nat) (w0 : World) (hd : IsDeeds w0 A len ca) :
    Calls Try.prog 4 #[.slice A len ca] w0 fun e w' => e = .returned (.bool true) ∧ Below w0.heap.size w0 w' := by
  obtain ⟨hcap, hds⟩ := hd
  have HB := Aside0.mk (Below.refl w0.heap.size w0)
  by_cases hbig : 100 < len
  · go_enter Try.func4, Try.ntmps4
    go_wp2_with ((go_at_call 6; refine (awake_any _).mono ?_; rintro e w1 ⟨rfl, hb⟩; have zz_HB := Aside0.mk (below_step HB.out hb); clear HB; have HB := zz_HB; clear zz_HB; clear hb))
    go_ret
    exact ⟨rfl, HB.out⟩
  · have hl100 : len ≤ 100 := by omega
    have HD := Aside0.mk hds
    clear hds
    go_enter Try.func4, Try.ntmps4
    go_wp2_with (first
      | (go_at_call 6; refine (awake_any _).mono ?_; rintro e w1 ⟨rfl, hb⟩; have zz_HB := Aside0.mk (below_step HB.out hb); clear HB; have HB := zz_HB; clear zz_HB; clear hb)
      | (go_at_call 7; refine (new_in _ HB.out HB.out.size).mono ?_; rintro e w1 ⟨g, rfl, hl, _, _⟩; have HL := Aside0.mk hl; clear hl HB))
    have hgl := blk_lt HL.out.log.box
    have HT : Aside0 (Both w0.heap.size w0 g w1.heap.size (w1.alloc (.cells #[.slice none 0 0, .int .i64 0] 36)) (.slice none 0 0) (.slice none 0 0) [] [] 0 0 (total [])) := ⟨by
      have hk := HL.out.from (below_alloc (Below.refl w1.heap.size w1) (.cells #[.slice none 0 0, .int .i64 0] 36))
      exact ⟨hk, ⟨blk_new w1 _, own_nil _ _ _ _, by simp [Value.ownBlock]⟩, HL.out.hB, by omega, by simp [Value.ownBlock], by simp [Value.ownBlock], by simp [Value.ownBlock]⟩⟩
    clear HL hgl
    generalize w1.alloc (.cells #[.slice none 0 0, .int .i64 0] 36) = W at HT ⊢
    generalize w1.heap.size = h at HT ⊢
    go_loopg [25] len (fun d x wr => ∃ (k : Nat) (v u : Value) (l : List ByteArray) (base : Nat), Aside0 (k + d = len) ∧ x = .int .i64 k ∧ Aside0 (l.length ≤ k ∧ (∀ s ∈ l, s.size ≤ 512) ∧ base ≤ l.length) ∧ Aside0 (Both w0.heap.size w0 g h wr v u l l base base (total l)))
    case atStart => exact ⟨0, _, _, [], 0, ⟨by omega⟩, rfl, ⟨by simp⟩, HT⟩
    case round =>
      clear HT
      obtain ⟨k, v, u, l, base, HK, rfl, HM, HT⟩ := hrel
      by_cases hlt : k < len
      · obtain ⟨⟨xk, xn, xs⟩, hx⟩ := HD.out k hlt
        obtain ⟨⟨ad, rfl, hc0, hc1, hc2⟩, hk0, hk1⟩ := hx.below HT.out.log.below
        clear hx
        simp only at hc0 hc1 hc2 hk0 hk1
        rw [← add_add, cell_off _ (by decide)] at hc1 hc2
        have hk2 : k < 100 := by omega
        have zz_HT := Aside0.mk (HT.out.run (.cells #[.int .u8 xk, .int .i64 xn, .string xs] 38 (0, 0))); clear HT; have HT := zz_HT; clear zz_HT
        by_cases h600 : 600 < xs.size
        · have h6 : (600 : Int) < (xs.size : Int) := by omega
          go_wp2
          go_ret
          exact ⟨rfl, HT.out.both.log.below⟩
        · have h6 : (xs.size : Int) ≤ 600 := by omega
          have hm : xk % 3 = 0 ∨ xk % 3 = 1 ∨ xk % 3 = 2 := by omega
          rcases hm with hm | hm | hm
          · have hq0 : (xk % 3 == 0) = true := by rw [hm]; rfl
            have HMM := Aside0.mk hm
            clear hm
            go_wp2_with fail
            generalize wr.alloc (.cells #[.int .u8 xk, .int .i64 xn, .string xs] 38) = W1 at HT ⊢
            generalize wr.heap.size = gx at HT ⊢
            have hts := total_small l HM.out.2.1
            refine (appA xs HT.out (by have := HM.out.1; omega) hts.1 (by have := HM.out.1; have := hts.2; omega)).mono ?_
            rintro e w4 ⟨v4, rfl, hr⟩
            rw [total_push] at hr
            clear hts
            have zz_HT := Aside0.mk (hr); clear HT; have HT := zz_HT; clear zz_HT
            clear hr
            have cx0 : w4.cell? ⟨gx, 0, none⟩ = some (.int .u8 xk) := (blk_cell HT.out.x 0).trans rfl
            have cx1 : w4.cell? ⟨gx, 1, none⟩ = some (.int .i64 xn) := (blk_cell HT.out.x 1).trans rfl
            have cx2 : w4.cell? ⟨gx, 2, none⟩ = some (.string xs) := (blk_cell HT.out.x 2).trans rfl
            go_wp2_with fail
            refine (appB xs HT.out (by have := HM.out.1; omega)).mono ?_
            rintro e w5 ⟨u5, rfl, hr⟩
            have zz_HT := Aside0.mk (hr); clear HT; have HT := zz_HT; clear zz_HT
            clear hr cx0 cx1 cx2
            have HM1 := Aside0.mk (push_all (s := xs) HM.out)
            clear HM
            generalize pushL l xs = q at HT HM1 ⊢
            obtain ⟨U, cu, hu, hcu, _⟩ := own_rds HT.out.both.ref.row
            subst hu
            have hq100 : q.length ≤ 100 := by have := HM1.out.1; omega
            go_wp2
            refine St.steadyR (n := 27) (by kernel_rfl) ([] :: [(0, 95)] :: [] :: [(2, 97)] :: [(3, 98)] :: [(4, 99)] :: [(5, 100)] :: [(1, 96), (6, 101)] :: [(7, 102)] :: [(8, 103)] :: [(8, 103), (9, 104)] :: [(8, 103)] :: [(8, 103), (11, 106)] :: [(8, 103), (12, 107)] :: [(8, 103), (13, 108)] :: [(8, 103), (10, 105), (14, 109)] :: [(8, 103), (15, 110)] :: [(16, 111)] :: [(17, 112)] :: [(17, 112), (18, 113)] :: [(17, 112)] :: [(17, 112), (20, 115)] :: [(17, 112), (21, 116)] :: [(17, 112), (22, 117)] :: [(17, 112), (23, 118)] :: [(17, 112), (19, 114), (24, 119)] :: [(17, 112), (25, 120)] :: []) (some 95 :: some 96 :: some 97 :: some 98 :: some 99 :: some 100 :: some 101 :: some 102 :: some 103 :: some 104 :: some 105 :: some 106 :: some 107 :: some 108 :: some 109 :: some 110 :: some 111 :: some 112 :: some 113 :: some 114 :: some 115 :: some 116 :: some 117 :: some 118 :: some 119 :: some 120 :: some 121 :: []) (by kernel_rfl) ((St.eqT ?c25_0x5) :: (St.eqT ?c25_1x5) :: (St.eqT ?c25_2x5) :: (St.eqT ?c25_3x5) :: (St.eqT ?c25_4x5) :: (St.eqT ?c25_5x5) :: (St.eqT ?c25_6x5) :: (St.eqT ?c25_7x5) :: (St.eqT ?c25_8x5) :: (St.eqT ?c25_9x5) :: (St.eqT ?c25_10x5) :: (St.eqT ?c25_11x5) :: (St.eqT ?c25_12x5) :: (St.eqT ?c25_13x5) :: (St.eqT ?c25_14x5) :: (St.eqT ?c25_15x5) :: (St.eqT ?c25_16x5) :: (St.eqT ?c25_17x5) :: (St.eqT ?c25_18x5) :: (St.eqT ?c25_19x5) :: (St.eqT ?c25_20x5) :: (St.eqT ?c25_21x5) :: (St.eqT ?c25_22x5) :: (St.eqT ?c25_23x5) :: (St.eqT ?c25_24x5) :: (St.eqT ?c25_25x5) :: (St.eqT ?c25_26x5) :: []) rfl (by rfl) (fun w' => Run w0.heap.size w0 g h gx (.cells #[.int .u8 xk, .int .i64 xn, .string xs] 38 (0, 0)) w' v4 (.slice U q.length cu) q q base base (total q)) (fun w w' => w = w') ?hst ?h0 ?hB ?hop ?hend
            case hop =>
              refine ⟨?_, ?_, ?_, ?_, ?_, ?_, ?_, ?_, ?_, ?_, ?_, ?_, ?_, ?_, ?_, ?_, ?_, ?_, ?_, ?_, ?_, ?_, ?_, ?_, ?_, ?_, ?_, trivial⟩
              · intro w hB
                simp only [St.withD]
                refine St.ob_value (v := ?_) (w' := w) (by rfl) ?_ ⟨rfl, ?_⟩
                rotate_left
                · go_simp
                  with_reducible rfl
                · rfl
              · intro w hB; rintro _ ⟨_, rfl⟩
                simp only [St.withD, List.nil_append, List.cons_append, Act.put, List.setIfInBounds_toArray, List.set_cons_zero, List.set_cons_succ]
                refine St.ob_call Try.func9 (by kernel_rfl) rfl #[.pointer (some ⟨g, 0, none⟩)] (by rfl) rfl (by (try simp only [List.map_toArray, List.map_cons, List.map_nil]); first | done | rfl | (simp only [List.length_drop, List.length_take]; rfl)) ?_
                refine (len_any _ g _ _ _ _ w hB.both.log.log).mono ?_
                rintro e w1 ⟨rfl, rfl⟩
                refine ⟨_, rfl, rfl, ?_⟩
                rfl
              · intro w hB
                simp only [St.withD]
                refine St.ob_value (v := ?_) (w' := w) (by rfl) ?_ ⟨rfl, ?_⟩
                rotate_left
                · go_simp
                  with_reducible rfl
                · rfl
              · intro w hB; rintro _ ⟨_, rfl⟩
                simp only [St.withD, List.nil_append, List.cons_append, Act.put, List.setIfInBounds_toArray, List.set_cons_zero, List.set_cons_succ]
                refine St.ob_value (v := ?_) (w' := w) (by rfl) ?_ ⟨rfl, ?_⟩
                rotate_left
                · go_simp
                  with_reducible rfl
                · rfl
              · intro w hB; rintro _ ⟨_, rfl⟩
                simp only [St.withD, List.nil_append, List.cons_append, Act.put, List.setIfInBounds_toArray, List.set_cons_zero, List.set_cons_succ]
                refine St.ob_value (v := ?_) (w' := w) (by rfl) ?_ ⟨rfl, ?_⟩
                rotate_left
                · go_simp
                  with_reducible rfl
                · rfl
              · intro w hB; rintro _ ⟨_, rfl⟩
                simp only [St.withD, List.nil_append, List.cons_append, Act.put, List.setIfInBounds_toArray, List.set_cons_zero, List.set_cons_succ]
                have c0 : w.cell? ⟨h, 0, none⟩ = some (.slice U q.length cu) := (blk_cell hB.both.ref.box 0).trans rfl
                have c1 : w.cell? ⟨h, 1, none⟩ = some (.int .i64 base) := (blk_cell hB.both.ref.box 1).trans rfl
                refine St.ob_value (v := ?_) (w' := w) (by rfl) ?_ ⟨rfl, ?_⟩
                rotate_left
                · go_simp
                  with_reducible rfl
                · rfl
              · intro w hB; rintro _ ⟨_, rfl⟩
                simp only [St.withD, List.nil_append, List.cons_append, Act.put, List.setIfInBounds_toArray, List.set_cons_zero, List.set_cons_succ]
                refine St.ob_value (v := ?_) (w' := w) (by rfl) ?_ ⟨rfl, ?_⟩
                rotate_left
                · go_simp
                  with_reducible rfl
                · rfl
              · intro w hB; rintro _ ⟨_, rfl⟩ _ ⟨_, rfl⟩
                simp only [St.withD, List.nil_append, List.cons_append, Act.put, List.setIfInBounds_toArray, List.set_cons_zero, List.set_cons_succ]
                refine St.ob_value (v := ?_) (w' := w) (by rfl) ?_ ⟨rfl, ?_⟩
                rotate_left
                · go_simp
                  with_reducible rfl
                · rfl
              · intro w hB; rintro _ ⟨_, rfl⟩
                simp only [St.withD, List.nil_append, List.cons_append, Act.put, List.setIfInBounds_toArray, List.set_cons_zero, List.set_cons_succ]
                refine St.ob_value (v := ?_) (w' := w) (by rfl) ?_ ⟨rfl, ?_⟩
                rotate_left
                · go_simp
                  with_reducible rfl
                · rfl
              · intro w hB; rintro _ ⟨_, rfl⟩
                simp only [St.withD, List.nil_append, List.cons_append, Act.put, List.setIfInBounds_toArray, List.set_cons_zero, List.set_cons_succ]
                refine St.ob_value (v := ?_) (w' := w) (by rfl) ?_ ⟨rfl, ?_⟩
                rotate_left
                · go_simp
                  with_reducible rfl
                · rfl
              · intro w hB; rintro _ ⟨_, rfl⟩ _ ⟨_, rfl⟩
                simp only [St.withD, List.nil_append, List.cons_append, Act.put, List.setIfInBounds_toArray, List.set_cons_zero, List.set_cons_succ]
                refine St.ob_call Try.func17 (by kernel_rfl) rfl #[.pointer (some ⟨g, 0, none⟩)] (by rfl) rfl (by (try simp only [List.map_toArray, List.map_cons, List.map_nil]); first | done | rfl | (simp only [List.length_drop, List.length_take]; rfl)) ?_
                refine (base_any _ g _ _ _ _ w hB.both.log.log).mono ?_
                rintro e w1 ⟨rfl, rfl⟩
                refine ⟨_, rfl, rfl, ?_⟩
                rfl
              · intro w hB; rintro _ ⟨_, rfl⟩
                simp only [St.withD, List.nil_append, List.cons_append, Act.put, List.setIfInBounds_toArray, List.set_cons_zero, List.set_cons_succ]
                refine St.ob_value (v := ?_) (w' := w) (by rfl) ?_ ⟨rfl, ?_⟩
                rotate_left
                · go_simp
                  with_reducible rfl
                · rfl
              · intro w hB; rintro _ ⟨_, rfl⟩ _ ⟨_, rfl⟩
                simp only [St.withD, List.nil_append, List.cons_append, Act.put, List.setIfInBounds_toArray, List.set_cons_zero, List.set_cons_succ]
                refine St.ob_value (v := ?_) (w' := w) (by rfl) ?_ ⟨rfl, ?_⟩
                rotate_left
                · go_simp
                  with_reducible rfl
                · rfl
              · intro w hB; rintro _ ⟨_, rfl⟩ _ ⟨_, rfl⟩
                simp only [St.withD, List.nil_append, List.cons_append, Act.put, List.setIfInBounds_toArray, List.set_cons_zero, List.set_cons_succ]
                refine St.ob_value (v := ?_) (w' := w) (by rfl) ?_ ⟨rfl, ?_⟩
                rotate_left
                · go_simp
                  with_reducible rfl
                · rfl
              · intro w hB; rintro _ ⟨_, rfl⟩ _ ⟨_, rfl⟩
                simp only [St.withD, List.nil_append, List.cons_append, Act.put, List.setIfInBounds_toArray, List.set_cons_zero, List.set_cons_succ]
                have c0 : w.cell? ⟨h, 0, none⟩ = some (.slice U q.length cu) := (blk_cell hB.both.ref.box 0).trans rfl
                have c1 : w.cell? ⟨h, 1, none⟩ = some (.int .i64 base) := (blk_cell hB.both.ref.box 1).trans rfl
                refine St.ob_value (v := ?_) (w' := w) (by rfl) ?_ ⟨rfl, ?_⟩
                rotate_left
                · go_simp
                  with_reducible rfl
                · rfl
              · intro w hB; rintro _ ⟨_, rfl⟩ _ ⟨_, rfl⟩ _ ⟨_, rfl⟩
                simp only [St.withD, List.nil_append, List.cons_append, Act.put, List.setIfInBounds_toArray, List.set_cons_zero, List.set_cons_succ]
                refine St.ob_value (v := ?_) (w' := w) (by rfl) ?_ ⟨rfl, ?_⟩
                rotate_left
                · go_simp
                  with_reducible rfl
                · rfl
              · intro w hB; rintro _ ⟨_, rfl⟩ _ ⟨_, rfl⟩
                simp only [St.withD, List.nil_append, List.cons_append, Act.put, List.setIfInBounds_toArray, List.set_cons_zero, List.set_cons_succ]
                refine St.ob_value (v := ?_) (w' := w) (by rfl) ?_ ⟨rfl, ?_⟩
                rotate_left
                · go_simp
                  with_reducible rfl
                · rfl
              · intro w hB; rintro _ ⟨_, rfl⟩
                simp only [St.withD, List.nil_append, List.cons_append, Act.put, List.setIfInBounds_toArray, List.set_cons_zero, List.set_cons_succ]
                refine St.ob_value (v := ?_) (w' := w) (by rfl) ?_ ⟨rfl, ?_⟩
                rotate_left
                · go_simp
                  with_reducible rfl
                · rfl
              · intro w hB; rintro _ ⟨_, rfl⟩
                simp only [St.withD, List.nil_append, List.cons_append, Act.put, List.setIfInBounds_toArray, List.set_cons_zero, List.set_cons_succ]
                refine St.ob_value (v := ?_) (w' := w) (by rfl) ?_ ⟨rfl, ?_⟩
                rotate_left
                · go_simp
                  with_reducible rfl
                · rfl
              · intro w hB; rintro _ ⟨_, rfl⟩ _ ⟨_, rfl⟩
                simp only [St.withD, List.nil_append, List.cons_append, Act.put, List.setIfInBounds_toArray, List.set_cons_zero, List.set_cons_succ]
                refine St.ob_call Try.func10 (by kernel_rfl) rfl #[.pointer (some ⟨g, 0, none⟩)] (by rfl) rfl (by (try simp only [List.map_toArray, List.map_cons, List.map_nil]); first | done | rfl | (simp only [List.length_drop, List.length_take]; rfl)) ?_
                refine (bytes_any _ g _ _ _ _ w hB.both.log.log).mono ?_
                rintro e w1 ⟨rfl, rfl⟩
                refine ⟨_, rfl, rfl, ?_⟩
                rfl
              · intro w hB; rintro _ ⟨_, rfl⟩
                simp only [St.withD, List.nil_append, List.cons_append, Act.put, List.setIfInBounds_toArray, List.set_cons_zero, List.set_cons_succ]
                refine St.ob_value (v := ?_) (w' := w) (by rfl) ?_ ⟨rfl, ?_⟩
                rotate_left
                · go_simp
                  with_reducible rfl
                · rfl
              · intro w hB; rintro _ ⟨_, rfl⟩ _ ⟨_, rfl⟩
                simp only [St.withD, List.nil_append, List.cons_append, Act.put, List.setIfInBounds_toArray, List.set_cons_zero, List.set_cons_succ]
                refine St.ob_value (v := ?_) (w' := w) (by rfl) ?_ ⟨rfl, ?_⟩
                rotate_left
                · go_simp
                  with_reducible rfl
                · rfl
              · intro w hB; rintro _ ⟨_, rfl⟩ _ ⟨_, rfl⟩
                simp only [St.withD, List.nil_append, List.cons_append, Act.put, List.setIfInBounds_toArray, List.set_cons_zero, List.set_cons_succ]
                refine St.ob_value (v := ?_) (w' := w) (by rfl) ?_ ⟨rfl, ?_⟩
                rotate_left
                · go_simp
                  with_reducible rfl
                · rfl
              · intro w hB; rintro _ ⟨_, rfl⟩ _ ⟨_, rfl⟩
                simp only [St.withD, List.nil_append, List.cons_append, Act.put, List.setIfInBounds_toArray, List.set_cons_zero, List.set_cons_succ]
                have c0 : w.cell? ⟨h, 0, none⟩ = some (.slice U q.length cu) := (blk_cell hB.both.ref.box 0).trans rfl
                have c1 : w.cell? ⟨h, 1, none⟩ = some (.int .i64 base) := (blk_cell hB.both.ref.box 1).trans rfl
                refine St.ob_value (v := ?_) (w' := w) (by rfl) ?_ ⟨rfl, ?_⟩
                rotate_left
                · go_simp
                  with_reducible rfl
                · rfl
              · intro w hB; rintro _ ⟨_, rfl⟩ _ ⟨_, rfl⟩
                simp only [St.withD, List.nil_append, List.cons_append, Act.put, List.setIfInBounds_toArray, List.set_cons_zero, List.set_cons_succ]
                obtain ⟨A2, c2, e2, hc2, hr2⟩ := own_rds hB.both.ref.row
                cases e2
                refine St.ob_call Try.func18 (by kernel_rfl) rfl #[.slice U q.length cu] (by rfl) rfl (by (try simp only [List.map_toArray, List.map_cons, List.map_nil]); first | done | rfl | (simp only [List.length_drop, List.length_take]; rfl)) ?_
                refine (refBytes_any U q cu w hr2 (by have := HM1.out.1; omega) hc2 (fun s hs => Nat.le_trans (HM1.out.2.1 s hs) (by decide))).mono ?_
                rintro e w1 ⟨rfl, rfl⟩
                refine ⟨_, rfl, rfl, ?_⟩
                rfl
              · intro w hB; rintro _ ⟨_, rfl⟩ _ ⟨_, rfl⟩ _ ⟨_, rfl⟩
                simp only [St.withD, List.nil_append, List.cons_append, Act.put, List.setIfInBounds_toArray, List.set_cons_zero, List.set_cons_succ]
                refine St.ob_value (v := ?_) (w' := w) (by rfl) ?_ ⟨rfl, ?_⟩
                rotate_left
                · go_simp
                  with_reducible rfl
                · rfl
              · intro w hB; rintro _ ⟨_, rfl⟩ _ ⟨_, rfl⟩
                simp only [St.withD, List.nil_append, List.cons_append, Act.put, List.setIfInBounds_toArray, List.set_cons_zero, List.set_cons_succ]
                refine St.ob_value (v := ?_) (w' := w) (by rfl) ?_ ⟨rfl, ?_⟩
                rotate_left
                · go_simp
                  with_reducible rfl
                · rfl
            case hst => exact ⟨St.eqT_st, St.eqT_st, St.eqT_st, St.eqT_st, St.eqT_st, St.eqT_st, St.eqT_st, St.eqT_st, St.eqT_st, St.eqT_st, St.eqT_st, St.eqT_st, St.eqT_st, St.eqT_st, St.eqT_st, St.eqT_st, St.eqT_st, St.eqT_st, St.eqT_st, St.eqT_st, St.eqT_st, St.eqT_st, St.eqT_st, St.eqT_st, St.eqT_st, St.eqT_st, St.eqT_st, trivial⟩
            case h0 => exact HT.out.from (below_drew1 (Below.refl _ _))
            case hB => exact fun w w' hb e => e ▸ hb
            case hend =>
              intro w hB
              rintro _ rfl _ rfl _ rfl _ rfl _ rfl _ rfl _ rfl _ rfl _ rfl _ rfl _ rfl _ rfl _ rfl _ rfl _ rfl _ rfl _ rfl _ rfl _ rfl _ rfl _ rfl _ rfl _ rfl _ rfl _ rfl _ rfl _ rfl
              simp only [List.map_cons, List.map_nil, List.nil_append, List.cons_append, List.getD_cons_zero, List.getD_cons_succ, Act.put, List.setIfInBounds_toArray, List.set_cons_zero, List.set_cons_succ]
              rw [St.withE_nil]
              have HT := Aside0.mk hB.both
              clear hB
              go_wp2
              go_roundg (gk - 1)
              case measure => have := HK.out; omega
              case rel => exact ⟨k + 1, _, _, _, _, ⟨by have := HK.out; omega⟩, by go_num, HM1, HT⟩
          · have hq0 : (xk % 3 == 0) = false := by rw [hm]; rfl
            have hq1 : (xk % 3 == 1) = true := by rw [hm]; rfl
            have HMM := Aside0.mk hm
            clear hm
            go_wp2
            generalize wr.alloc (.cells #[.int .u8 xk, .int .i64 xn, .string xs] 38) = W1 at HT ⊢
            generalize wr.heap.size = gx at HT ⊢
            obtain ⟨b1, hb1⟩ : ∃ b1, trB l base xn = b1 := ⟨_, rfl⟩
            have HB1 := Aside0.mk hb1
            have HM1 : Aside0 (l.length ≤ k + 1 ∧ (∀ s ∈ l, s.size ≤ 512) ∧ b1 ≤ l.length) := ⟨by
              have h1 := HM.out
              have h2 := trB_le l base xn h1.2.2
              rw [hb1] at h2
              exact ⟨by omega, h1.2.1, h2⟩⟩
            clear hb1
            refine St.steadyG (n := 9) (by kernel_rfl) ([] :: [] :: [(1, 63)] :: [(0, 62), (2, 64)] :: [] :: [] :: [(5, 67)] :: [(4, 66), (6, 68)] :: [(3, 65), (7, 69)] :: []) (some 62 :: some 63 :: some 64 :: some 65 :: some 66 :: some 67 :: some 68 :: some 69 :: some 70 :: []) (by kernel_rfl) ((St.eqT ?c18_0x3) :: (St.eqT ?c18_1x3) :: (St.eqT ?c18_2x3) :: (St.eqT ?c18_3x3) :: (St.eqT ?c18_4x3) :: (St.eqT ?c18_5x3) :: (St.eqT ?c18_6x3) :: (St.eqT ?c18_7x3) :: (St.eqT ?c18_8x3) :: []) rfl (by rfl) (fun fl w' => Run w0.heap.size w0 g h gx (.cells #[.int .u8 xk, .int .i64 xn, .string xs] 38 (0, 0)) w' v u l l (bif fl 3 then b1 else base) (bif fl 7 then b1 else base) (total l)) (fun i wa wb => (i = 3 → ∀ b2, Run w0.heap.size w0 g h gx (.cells #[.int .u8 xk, .int .i64 xn, .string xs] 38 (0, 0)) wa v u l l base b2 (total l) → Run w0.heap.size w0 g h gx (.cells #[.int .u8 xk, .int .i64 xn, .string xs] 38 (0, 0)) wb v u l l b1 b2 (total l)) ∧ (i = 7 → ∀ b, Run w0.heap.size w0 g h gx (.cells #[.int .u8 xk, .int .i64 xn, .string xs] 38 (0, 0)) wa v u l l b base (total l) → Run w0.heap.size w0 g h gx (.cells #[.int .u8 xk, .int .i64 xn, .string xs] 38 (0, 0)) wb v u l l b b1 (total l)) ∧ (i ≠ 3 → i ≠ 7 → wa = wb)) ?hst ?h0 (fun i w' => ∃ b b2, Run w0.heap.size w0 g h gx (.cells #[.int .u8 xk, .int .i64 xn, .string xs] 38 (0, 0)) w' v u l l b b2 (total l) ∧ (i = 3 → b = base) ∧ (i = 7 → b2 = base)) ?hB ?hG ?hop ?hend
            case hop =>
              refine ⟨?_, ?_, ?_, ?_, ?_, ?_, ?_, ?_, ?_, trivial⟩
              · intro w hB
                simp only [St.withD]
                refine St.ob_value (v := ?_) (w' := w) (by rfl) ?_ ⟨⟨fun e => absurd e (by decide), fun e => absurd e (by decide), fun _ _ => rfl⟩, ?_⟩
                rotate_left
                · go_simp
                  with_reducible rfl
                · rfl
              · intro w hB
                simp only [St.withD]
                refine St.ob_value (v := ?_) (w' := w) (by rfl) ?_ ⟨⟨fun e => absurd e (by decide), fun e => absurd e (by decide), fun _ _ => rfl⟩, ?_⟩
                rotate_left
                · go_simp
                  with_reducible rfl
                · rfl
              · intro w hB; rintro _ ⟨_, rfl⟩
                simp only [St.withD, List.nil_append, List.cons_append, Act.put, List.setIfInBounds_toArray, List.set_cons_zero, List.set_cons_succ]
                have cx1 : w.cell? ⟨gx, 1, none⟩ = some (.int .i64 xn) := (blk_cell hB.choose_spec.choose_spec.1.x 1).trans rfl
                refine St.ob_value (v := ?_) (w' := w) (by rfl) ?_ ⟨⟨fun e => absurd e (by decide), fun e => absurd e (by decide), fun _ _ => rfl⟩, ?_⟩
                rotate_left
                · go_simp
                  with_reducible rfl
                · rfl
              · intro w hB; rintro _ ⟨_, rfl⟩ _ ⟨_, rfl⟩
                simp only [St.withD, List.nil_append, List.cons_append, Act.put, List.setIfInBounds_toArray, List.set_cons_zero, List.set_cons_succ]
                obtain ⟨b, b2, hR, hb3, _⟩ := hB
                have e := hb3 rfl
                rw [e] at hR
                clear hb3 e
                refine St.ob_call Try.func11 (by kernel_rfl) rfl #[.pointer (some ⟨g, 0, none⟩), .int .i64 xn] (by rfl) rfl (by (try simp only [List.map_toArray, List.map_cons, List.map_nil]); first | done | rfl | (simp only [List.length_drop, List.length_take]; rfl)) ?_
                refine (truncA xn hR).mono ?_
                rintro e w1 ⟨rfl, hR1⟩
                refine ⟨_, rfl, ⟨fun _ b' hr => by rw [← HB1.out]; obtain ⟨_, rfl⟩ := hR.one hr; exact hR1, fun e => absurd e (by decide), fun e => absurd rfl e⟩, ?_⟩
                rfl
              · intro w hB
                simp only [St.withD]
                refine St.ob_value (v := ?_) (w' := w) (by rfl) ?_ ⟨⟨fun e => absurd e (by decide), fun e => absurd e (by decide), fun _ _ => rfl⟩, ?_⟩
                rotate_left
                · go_simp
                  with_reducible rfl
                · rfl
              · intro w hB
                simp only [St.withD]
                refine St.ob_value (v := ?_) (w' := w) (by rfl) ?_ ⟨⟨fun e => absurd e (by decide), fun e => absurd e (by decide), fun _ _ => rfl⟩, ?_⟩
                rotate_left
                · go_simp
                  with_reducible rfl
                · rfl
              · intro w hB; rintro _ ⟨_, rfl⟩
                simp only [St.withD, List.nil_append, List.cons_append, Act.put, List.setIfInBounds_toArray, List.set_cons_zero, List.set_cons_succ]
                have cx1 : w.cell? ⟨gx, 1, none⟩ = some (.int .i64 xn) := (blk_cell hB.choose_spec.choose_spec.1.x 1).trans rfl
                refine St.ob_value (v := ?_) (w' := w) (by rfl) ?_ ⟨⟨fun e => absurd e (by decide), fun e => absurd e (by decide), fun _ _ => rfl⟩, ?_⟩
                rotate_left
                · go_simp
                  with_reducible rfl
                · rfl
              · intro w hB; rintro _ ⟨_, rfl⟩ _ ⟨_, rfl⟩
                simp only [St.withD, List.nil_append, List.cons_append, Act.put, List.setIfInBounds_toArray, List.set_cons_zero, List.set_cons_succ]
                obtain ⟨b, b2, hR, _, hb7⟩ := hB
                have e := hb7 rfl
                rw [e] at hR
                clear hb7 e
                refine St.ob_call Try.func14 (by kernel_rfl) rfl #[.pointer (some ⟨h, 0, none⟩), .int .i64 xn] (by rfl) rfl (by (try simp only [List.map_toArray, List.map_cons, List.map_nil]); first | done | rfl | (simp only [List.length_drop, List.length_take]; rfl)) ?_
                refine (truncB xn hR).mono ?_
                rintro e w1 ⟨rfl, hR1⟩
                refine ⟨_, rfl, ⟨fun e => absurd e (by decide), fun _ b' hr => by rw [← HB1.out]; obtain ⟨rfl, _⟩ := hR.one hr; exact hR1, fun _ e => absurd rfl e⟩, ?_⟩
                rfl
              · intro w hB; rintro _ ⟨_, rfl⟩ _ ⟨_, rfl⟩
                simp only [St.withD, List.nil_append, List.cons_append, Act.put, List.setIfInBounds_toArray, List.set_cons_zero, List.set_cons_succ]
                refine St.ob_value (v := ?_) (w' := w) (by rfl) ?_ ⟨⟨fun e => absurd e (by decide), fun e => absurd e (by decide), fun _ _ => rfl⟩, ?_⟩
                rotate_left
                · go_simp
                  with_reducible rfl
                · rfl
            case hst =>
              intro i j fl hi hj _ _ _ ds v wa wb ht _
              refine St.sts_get (Rel := fun _ _ _ => True) 0 _ j (by simpa using hj) ?_ ds v wa wb ht trivial
              exact ⟨St.eqT_st, St.eqT_st, St.eqT_st, St.eqT_st, St.eqT_st, St.eqT_st, St.eqT_st, St.eqT_st, St.eqT_st, trivial⟩
            case h0 => exact HT.out.from (below_drew1 (Below.refl _ _))
            case hB => exact fun i fl w' hi hfi _ _ hG => ⟨_, _, hG, fun e => by subst e; rw [hfi]; rfl, fun e => by subst e; rw [hfi]; rfl⟩
            case hG => (
              intro i fl wa wb hi hfi _ _ hG hR
              by_cases h3 : i = 3
              · subst h3
                have := hR.1 rfl _ (by simpa only [hfi, cond_false] using hG)
                simpa [St.upB] using this
              · by_cases h7 : i = 7
                · subst h7
                  have := hR.2.1 rfl _ (by simpa only [hfi, cond_false] using hG)
                  simpa [St.upB] using this
                · have e := hR.2.2 h3 h7
                  subst e
                  have e3 : St.upB fl i 3 = fl 3 := by unfold St.upB; rw [if_neg (Ne.symm h3)]
                  have e7 : St.upB fl i 7 = fl 7 := by unfold St.upB; rw [if_neg (Ne.symm h7)]
                  simpa only [e3, e7] using hG)
            case hend =>
              intro fl w hall hB
              rintro _ rfl _ rfl _ rfl _ rfl _ rfl _ rfl _ rfl _ rfl _ rfl
              simp only [List.map_cons, List.map_nil, List.nil_append, List.cons_append, List.getD_cons_zero, List.getD_cons_succ, Act.put, List.setIfInBounds_toArray, List.set_cons_zero, List.set_cons_succ]
              rw [St.withE_nil]
              have HT : Aside0 (Run w0.heap.size w0 g h gx (.cells #[.int .u8 xk, .int .i64 xn, .string xs] 38 (0, 0)) w v u l l b1 b1 (total l)) := ⟨by have h3 := hall 3 (by decide); have h7 := hall 7 (by decide); simpa only [h3, h7, cond_true] using hB⟩
              clear hB hall
              go_wp2
              obtain ⟨U, cu, hu, hcu, _⟩ := own_rds HT.out.both.ref.row
              subst hu
              have hq100 : l.length ≤ 100 := by have := HM1.out.1; omega
              go_wp2
              refine St.steadyR (n := 27) (by kernel_rfl) ([] :: [(0, 95)] :: [] :: [(2, 97)] :: [(3, 98)] :: [(4, 99)] :: [(5, 100)] :: [(1, 96), (6, 101)] :: [(7, 102)] :: [(8, 103)] :: [(8, 103), (9, 104)] :: [(8, 103)] :: [(8, 103), (11, 106)] :: [(8, 103), (12, 107)] :: [(8, 103), (13, 108)] :: [(8, 103), (10, 105), (14, 109)] :: [(8, 103), (15, 110)] :: [(16, 111)] :: [(17, 112)] :: [(17, 112), (18, 113)] :: [(17, 112)] :: [(17, 112), (20, 115)] :: [(17, 112), (21, 116)] :: [(17, 112), (22, 117)] :: [(17, 112), (23, 118)] :: [(17, 112), (19, 114), (24, 119)] :: [(17, 112), (25, 120)] :: []) (some 95 :: some 96 :: some 97 :: some 98 :: some 99 :: some 100 :: some 101 :: some 102 :: some 103 :: some 104 :: some 105 :: some 106 :: some 107 :: some 108 :: some 109 :: some 110 :: some 111 :: some 112 :: some 113 :: some 114 :: some 115 :: some 116 :: some 117 :: some 118 :: some 119 :: some 120 :: some 121 :: []) (by kernel_rfl) ((St.eqT ?c25_0x6) :: (St.eqT ?c25_1x6) :: (St.eqT ?c25_2x6) :: (St.eqT ?c25_3x6) :: (St.eqT ?c25_4x6) :: (St.eqT ?c25_5x6) :: (St.eqT ?c25_6x6) :: (St.eqT ?c25_7x6) :: (St.eqT ?c25_8x6) :: (St.eqT ?c25_9x6) :: (St.eqT ?c25_10x6) :: (St.eqT ?c25_11x6) :: (St.eqT ?c25_12x6) :: (St.eqT ?c25_13x6) :: (St.eqT ?c25_14x6) :: (St.eqT ?c25_15x6) :: (St.eqT ?c25_16x6) :: (St.eqT ?c25_17x6) :: (St.eqT ?c25_18x6) :: (St.eqT ?c25_19x6) :: (St.eqT ?c25_20x6) :: (St.eqT ?c25_21x6) :: (St.eqT ?c25_22x6) :: (St.eqT ?c25_23x6) :: (St.eqT ?c25_24x6) :: (St.eqT ?c25_25x6) :: (St.eqT ?c25_26x6) :: []) rfl (by rfl) (fun w' => Run w0.heap.size w0 g h gx (.cells #[.int .u8 xk, .int .i64 xn, .string xs] 38 (0, 0)) w' v (.slice U l.length cu) l l b1 b1 (total l)) (fun w w' => w = w') ?hst ?h0 ?hB ?hop ?hend
              case hop =>
                refine ⟨?_, ?_, ?_, ?_, ?_, ?_, ?_, ?_, ?_, ?_, ?_, ?_, ?_, ?_, ?_, ?_, ?_, ?_, ?_, ?_, ?_, ?_, ?_, ?_, ?_, ?_, ?_, trivial⟩
                · intro w hB
                  simp only [St.withD]
                  refine St.ob_value (v := ?_) (w' := w) (by rfl) ?_ ⟨rfl, ?_⟩
                  rotate_left
                  · go_simp
                    with_reducible rfl
                  · rfl
                · intro w hB; rintro _ ⟨_, rfl⟩
                  simp only [St.withD, List.nil_append, List.cons_append, Act.put, List.setIfInBounds_toArray, List.set_cons_zero, List.set_cons_succ]
                  refine St.ob_call Try.func9 (by kernel_rfl) rfl #[.pointer (some ⟨g, 0, none⟩)] (by rfl) rfl (by (try simp only [List.map_toArray, List.map_cons, List.map_nil]); first | done | rfl | (simp only [List.length_drop, List.length_take]; rfl)) ?_
                  refine (len_any _ g _ _ _ _ w hB.both.log.log).mono ?_
                  rintro e w1 ⟨rfl, rfl⟩
                  refine ⟨_, rfl, rfl, ?_⟩
                  rfl
                · intro w hB
                  simp only [St.withD]
                  refine St.ob_value (v := ?_) (w' := w) (by rfl) ?_ ⟨rfl, ?_⟩
                  rotate_left
                  · go_simp
                    with_reducible rfl
                  · rfl
                · intro w hB; rintro _ ⟨_, rfl⟩
                  simp only [St.withD, List.nil_append, List.cons_append, Act.put, List.setIfInBounds_toArray, List.set_cons_zero, List.set_cons_succ]
                  refine St.ob_value (v := ?_) (w' := w) (by rfl) ?_ ⟨rfl, ?_⟩
                  rotate_left
                  · go_simp
                    with_reducible rfl
                  · rfl
                · intro w hB; rintro _ ⟨_, rfl⟩
                  simp only [St.withD, List.nil_append, List.cons_append, Act.put, List.setIfInBounds_toArray, List.set_cons_zero, List.set_cons_succ]
                  refine St.ob_value (v := ?_) (w' := w) (by rfl) ?_ ⟨rfl, ?_⟩
                  rotate_left
                  · go_simp
                    with_reducible rfl
                  · rfl
                · intro w hB; rintro _ ⟨_, rfl⟩
                  simp only [St.withD, List.nil_append, List.cons_append, Act.put, List.setIfInBounds_toArray, List.set_cons_zero, List.set_cons_succ]
                  have c0 : w.cell? ⟨h, 0, none⟩ = some (.slice U l.length cu) := (blk_cell hB.both.ref.box 0).trans rfl
                  have c1 : w.cell? ⟨h, 1, none⟩ = some (.int .i64 b1) := (blk_cell hB.both.ref.box 1).trans rfl
                  refine St.ob_value (v := ?_) (w' := w) (by rfl) ?_ ⟨rfl, ?_⟩
                  rotate_left
                  · go_simp
                    with_reducible rfl
                  · rfl
                · intro w hB; rintro _ ⟨_, rfl⟩
                  simp only [St.withD, List.nil_append, List.cons_append, Act.put, List.setIfInBounds_toArray, List.set_cons_zero, List.set_cons_succ]
                  refine St.ob_value (v := ?_) (w' := w) (by rfl) ?_ ⟨rfl, ?_⟩
                  rotate_left
                  · go_simp
                    with_reducible rfl
                  · rfl
                · intro w hB; rintro _ ⟨_, rfl⟩ _ ⟨_, rfl⟩
                  simp only [St.withD, List.nil_append, List.cons_append, Act.put, List.setIfInBounds_toArray, List.set_cons_zero, List.set_cons_succ]
                  refine St.ob_value (v := ?_) (w' := w) (by rfl) ?_ ⟨rfl, ?_⟩
                  rotate_left
                  · go_simp
                    with_reducible rfl
                  · rfl
                · intro w hB; rintro _ ⟨_, rfl⟩
                  simp only [St.withD, List.nil_append, List.cons_append, Act.put, List.setIfInBounds_toArray, List.set_cons_zero, List.set_cons_succ]
                  refine St.ob_value (v := ?_) (w' := w) (by rfl) ?_ ⟨rfl, ?_⟩
                  rotate_left
                  · go_simp
                    with_reducible rfl
                  · rfl
                · intro w hB; rintro _ ⟨_, rfl⟩
                  simp only [St.withD, List.nil_append, List.cons_append, Act.put, List.setIfInBounds_toArray, List.set_cons_zero, List.set_cons_succ]
                  refine St.ob_value (v := ?_) (w' := w) (by rfl) ?_ ⟨rfl, ?_⟩
                  rotate_left
                  · go_simp
                    with_reducible rfl
                  · rfl
                · intro w hB; rintro _ ⟨_, rfl⟩ _ ⟨_, rfl⟩
                  simp only [St.withD, List.nil_append, List.cons_append, Act.put, List.setIfInBounds_toArray, List.set_cons_zero, List.set_cons_succ]
                  refine St.ob_call Try.func17 (by kernel_rfl) rfl #[.pointer (some ⟨g, 0, none⟩)] (by rfl) rfl (by (try simp only [List.map_toArray, List.map_cons, List.map_nil]); first | done | rfl | (simp only [List.length_drop, List.length_take]; rfl)) ?_
                  refine (base_any _ g _ _ _ _ w hB.both.log.log).mono ?_
                  rintro e w1 ⟨rfl, rfl⟩
                  refine ⟨_, rfl, rfl, ?_⟩
                  rfl
                · intro w hB; rintro _ ⟨_, rfl⟩
                  simp only [St.withD, List.nil_append, List.cons_append, Act.put, List.setIfInBounds_toArray, List.set_cons_zero, List.set_cons_succ]
                  refine St.ob_value (v := ?_) (w' := w) (by rfl) ?_ ⟨rfl, ?_⟩
                  rotate_left
                  · go_simp
                    with_reducible rfl
                  · rfl
                · intro w hB; rintro _ ⟨_, rfl⟩ _ ⟨_, rfl⟩
                  simp only [St.withD, List.nil_append, List.cons_append, Act.put, List.setIfInBounds_toArray, List.set_cons_zero, List.set_cons_succ]
                  refine St.ob_value (v := ?_) (w' := w) (by rfl) ?_ ⟨rfl, ?_⟩
                  rotate_left
                  · go_simp
                    with_reducible rfl
                  · rfl
                · intro w hB; rintro _ ⟨_, rfl⟩ _ ⟨_, rfl⟩
                  simp only [St.withD, List.nil_append, List.cons_append, Act.put, List.setIfInBounds_toArray, List.set_cons_zero, List.set_cons_succ]
                  refine St.ob_value (v := ?_) (w' := w) (by rfl) ?_ ⟨rfl, ?_⟩
                  rotate_left
                  · go_simp
                    with_reducible rfl
                  · rfl
                · intro w hB; rintro _ ⟨_, rfl⟩ _ ⟨_, rfl⟩
                  simp only [St.withD, List.nil_append, List.cons_append, Act.put, List.setIfInBounds_toArray, List.set_cons_zero, List.set_cons_succ]
                  have c0 : w.cell? ⟨h, 0, none⟩ = some (.slice U l.length cu) := (blk_cell hB.both.ref.box 0).trans rfl
                  have c1 : w.cell? ⟨h, 1, none⟩ = some (.int .i64 b1) := (blk_cell hB.both.ref.box 1).trans rfl
                  refine St.ob_value (v := ?_) (w' := w) (by rfl) ?_ ⟨rfl, ?_⟩
                  rotate_left
                  · go_simp
                    with_reducible rfl
                  · rfl
                · intro w hB; rintro _ ⟨_, rfl⟩ _ ⟨_, rfl⟩ _ ⟨_, rfl⟩
                  simp only [St.withD, List.nil_append, List.cons_append, Act.put, List.setIfInBounds_toArray, List.set_cons_zero, List.set_cons_succ]
                  refine St.ob_value (v := ?_) (w' := w) (by rfl) ?_ ⟨rfl, ?_⟩
                  rotate_left
                  · go_simp
                    with_reducible rfl
                  · rfl
                · intro w hB; rintro _ ⟨_, rfl⟩ _ ⟨_, rfl⟩
                  simp only [St.withD, List.nil_append, List.cons_append, Act.put, List.setIfInBounds_toArray, List.set_cons_zero, List.set_cons_succ]
                  refine St.ob_value (v := ?_) (w' := w) (by rfl) ?_ ⟨rfl, ?_⟩
                  rotate_left
                  · go_simp
                    with_reducible rfl
                  · rfl
                · intro w hB; rintro _ ⟨_, rfl⟩
                  simp only [St.withD, List.nil_append, List.cons_append, Act.put, List.setIfInBounds_toArray, List.set_cons_zero, List.set_cons_succ]
                  refine St.ob_value (v := ?_) (w' := w) (by rfl) ?_ ⟨rfl, ?_⟩
                  rotate_left
                  · go_simp
                    with_reducible rfl
                  · rfl
                · intro w hB; rintro _ ⟨_, rfl⟩
                  simp only [St.withD, List.nil_append, List.cons_append, Act.put, List.setIfInBounds_toArray, List.set_cons_zero, List.set_cons_succ]
                  refine St.ob_value (v := ?_) (w' := w) (by rfl) ?_ ⟨rfl, ?_⟩
                  rotate_left
                  · go_simp
                    with_reducible rfl
                  · rfl
                · intro w hB; rintro _ ⟨_, rfl⟩ _ ⟨_, rfl⟩
                  simp only [St.withD, List.nil_append, List.cons_append, Act.put, List.setIfInBounds_toArray, List.set_cons_zero, List.set_cons_succ]
                  refine St.ob_call Try.func10 (by kernel_rfl) rfl #[.pointer (some ⟨g, 0, none⟩)] (by rfl) rfl (by (try simp only [List.map_toArray, List.map_cons, List.map_nil]); first | done | rfl | (simp only [List.length_drop, List.length_take]; rfl)) ?_
                  refine (bytes_any _ g _ _ _ _ w hB.both.log.log).mono ?_
                  rintro e w1 ⟨rfl, rfl⟩
                  refine ⟨_, rfl, rfl, ?_⟩
                  rfl
                · intro w hB; rintro _ ⟨_, rfl⟩
                  simp only [St.withD, List.nil_append, List.cons_append, Act.put, List.setIfInBounds_toArray, List.set_cons_zero, List.set_cons_succ]
                  refine St.ob_value (v := ?_) (w' := w) (by rfl) ?_ ⟨rfl, ?_⟩
                  rotate_left
                  · go_simp
                    with_reducible rfl
                  · rfl
                · intro w hB; rintro _ ⟨_, rfl⟩ _ ⟨_, rfl⟩
                  simp only [St.withD, List.nil_append, List.cons_append, Act.put, List.setIfInBounds_toArray, List.set_cons_zero, List.set_cons_succ]
                  refine St.ob_value (v := ?_) (w' := w) (by rfl) ?_ ⟨rfl, ?_⟩
                  rotate_left
                  · go_simp
                    with_reducible rfl
                  · rfl
                · intro w hB; rintro _ ⟨_, rfl⟩ _ ⟨_, rfl⟩
                  simp only [St.withD, List.nil_append, List.cons_append, Act.put, List.setIfInBounds_toArray, List.set_cons_zero, List.set_cons_succ]
                  refine St.ob_value (v := ?_) (w' := w) (by rfl) ?_ ⟨rfl, ?_⟩
                  rotate_left
                  · go_simp
                    with_reducible rfl
                  · rfl
                · intro w hB; rintro _ ⟨_, rfl⟩ _ ⟨_, rfl⟩
                  simp only [St.withD, List.nil_append, List.cons_append, Act.put, List.setIfInBounds_toArray, List.set_cons_zero, List.set_cons_succ]
                  have c0 : w.cell? ⟨h, 0, none⟩ = some (.slice U l.length cu) := (blk_cell hB.both.ref.box 0).trans rfl
                  have c1 : w.cell? ⟨h, 1, none⟩ = some (.int .i64 b1) := (blk_cell hB.both.ref.box 1).trans rfl
                  refine St.ob_value (v := ?_) (w' := w) (by rfl) ?_ ⟨rfl, ?_⟩
                  rotate_left
                  · go_simp
                    with_reducible rfl
                  · rfl
                · intro w hB; rintro _ ⟨_, rfl⟩ _ ⟨_, rfl⟩
                  simp only [St.withD, List.nil_append, List.cons_append, Act.put, List.setIfInBounds_toArray, List.set_cons_zero, List.set_cons_succ]
                  obtain ⟨A2, c2, e2, hc2, hr2⟩ := own_rds hB.both.ref.row
                  cases e2
                  refine St.ob_call Try.func18 (by kernel_rfl) rfl #[.slice U l.length cu] (by rfl) rfl (by (try simp only [List.map_toArray, List.map_cons, List.map_nil]); first | done | rfl | (simp only [List.length_drop, List.length_take]; rfl)) ?_
                  refine (refBytes_any U l cu w hr2 (by have := HM1.out.1; omega) hc2 (fun s hs => Nat.le_trans (HM1.out.2.1 s hs) (by decide))).mono ?_
                  rintro e w1 ⟨rfl, rfl⟩
                  refine ⟨_, rfl, rfl, ?_⟩
                  rfl
                · intro w hB; rintro _ ⟨_, rfl⟩ _ ⟨_, rfl⟩ _ ⟨_, rfl⟩
                  simp only [St.withD, List.nil_append, List.cons_append, Act.put, List.setIfInBounds_toArray, List.set_cons_zero, List.set_cons_succ]
                  refine St.ob_value (v := ?_) (w' := w) (by rfl) ?_ ⟨rfl, ?_⟩
                  rotate_left
                  · go_simp
                    with_reducible rfl
                  · rfl
                · intro w hB; rintro _ ⟨_, rfl⟩ _ ⟨_, rfl⟩
                  simp only [St.withD, List.nil_append, List.cons_append, Act.put, List.setIfInBounds_toArray, List.set_cons_zero, List.set_cons_succ]
                  refine St.ob_value (v := ?_) (w' := w) (by rfl) ?_ ⟨rfl, ?_⟩
                  rotate_left
                  · go_simp
                    with_reducible rfl
                  · rfl
              case hst => exact ⟨St.eqT_st, St.eqT_st, St.eqT_st, St.eqT_st, St.eqT_st, St.eqT_st, St.eqT_st, St.eqT_st, St.eqT_st, St.eqT_st, St.eqT_st, St.eqT_st, St.eqT_st, St.eqT_st, St.eqT_st, St.eqT_st, St.eqT_st, St.eqT_st, St.eqT_st, St.eqT_st, St.eqT_st, St.eqT_st, St.eqT_st, St.eqT_st, St.eqT_st, St.eqT_st, St.eqT_st, trivial⟩
              case h0 => exact HT.out.from (below_drew1 (Below.refl _ _))
              case hB => exact fun w w' hb e => e ▸ hb
              case hend =>
                intro w hB
                rintro _ rfl _ rfl _ rfl _ rfl _ rfl _ rfl _ rfl _ rfl _ rfl _ rfl _ rfl _ rfl _ rfl _ rfl _ rfl _ rfl _ rfl _ rfl _ rfl _ rfl _ rfl _ rfl _ rfl _ rfl _ rfl _ rfl _ rfl
                simp only [List.map_cons, List.map_nil, List.nil_append, List.cons_append, List.getD_cons_zero, List.getD_cons_succ, Act.put, List.setIfInBounds_toArray, List.set_cons_zero, List.set_cons_succ]
                rw [St.withE_nil]
                have HT := Aside0.mk hB.both
                clear hB
                go_wp2
                go_roundg (gk - 1)
                case measure => have := HK.out; omega
                case rel => exact ⟨k + 1, _, _, _, _, ⟨by have := HK.out; omega⟩, by go_num, HM1, HT⟩
          · have hq0 : (xk % 3 == 0) = false := by rw [hm]; rfl
            have hq1 : (xk % 3 == 1) = false := by rw [hm]; rfl
            have hq2 : (xk % 3 == 2) = true := by rw [hm]; rfl
            have HMM := Aside0.mk hm
            clear hm
            go_wp2_with fail
            generalize wr.alloc (.cells #[.int .u8 xk, .int .i64 xn, .string xs] 38) = W1 at HT ⊢
            generalize wr.heap.size = gx at HT ⊢
            refine (at_any _ g v l base _ xn _ HT.out.both.log.log).mono ?_
            rintro e w4 ⟨rfl, rfl⟩
            have cx0 : W1.cell? ⟨gx, 0, none⟩ = some (.int .u8 xk) := (blk_cell HT.out.x 0).trans rfl
            have cx1 : W1.cell? ⟨gx, 1, none⟩ = some (.int .i64 xn) := (blk_cell HT.out.x 1).trans rfl
            have cx2 : W1.cell? ⟨gx, 2, none⟩ = some (.string xs) := (blk_cell HT.out.x 2).trans rfl
            go_wp2_with fail
            refine (rat_any _ h u l base xn _ HT.out.both.ref).mono ?_
            rintro e w5 ⟨rfl, rfl⟩
            clear cx0 cx1 cx2
            have HM1 : Aside0 (l.length ≤ k + 1 ∧ (∀ s ∈ l, s.size ≤ 512) ∧ base ≤ l.length) := ⟨by have h1 := HM.out; exact ⟨by omega, h1.2.1, h1.2.2⟩⟩
            obtain ⟨U, cu, hu, hcu, _⟩ := own_rds HT.out.both.ref.row
            subst hu
            have hq100 : l.length ≤ 100 := by have := HM1.out.1; omega
            go_wp2
            refine St.steadyR (n := 27) (by kernel_rfl) ([] :: [(0, 95)] :: [] :: [(2, 97)] :: [(3, 98)] :: [(4, 99)] :: [(5, 100)] :: [(1, 96), (6, 101)] :: [(7, 102)] :: [(8, 103)] :: [(8, 103), (9, 104)] :: [(8, 103)] :: [(8, 103), (11, 106)] :: [(8, 103), (12, 107)] :: [(8, 103), (13, 108)] :: [(8, 103), (10, 105), (14, 109)] :: [(8, 103), (15, 110)] :: [(16, 111)] :: [(17, 112)] :: [(17, 112), (18, 113)] :: [(17, 112)] :: [(17, 112), (20, 115)] :: [(17, 112), (21, 116)] :: [(17, 112), (22, 117)] :: [(17, 112), (23, 118)] :: [(17, 112), (19, 114), (24, 119)] :: [(17, 112), (25, 120)] :: []) (some 95 :: some 96 :: some 97 :: some 98 :: some 99 :: some 100 :: some 101 :: some 102 :: some 103 :: some 104 :: some 105 :: some 106 :: some 107 :: some 108 :: some 109 :: some 110 :: some 111 :: some 112 :: some 113 :: some 114 :: some 115 :: some 116 :: some 117 :: some 118 :: some 119 :: some 120 :: some 121 :: []) (by kernel_rfl) ((St.eqT ?c25_0x7) :: (St.eqT ?c25_1x7) :: (St.eqT ?c25_2x7) :: (St.eqT ?c25_3x7) :: (St.eqT ?c25_4x7) :: (St.eqT ?c25_5x7) :: (St.eqT ?c25_6x7) :: (St.eqT ?c25_7x7) :: (St.eqT ?c25_8x7) :: (St.eqT ?c25_9x7) :: (St.eqT ?c25_10x7) :: (St.eqT ?c25_11x7) :: (St.eqT ?c25_12x7) :: (St.eqT ?c25_13x7) :: (St.eqT ?c25_14x7) :: (St.eqT ?c25_15x7) :: (St.eqT ?c25_16x7) :: (St.eqT ?c25_17x7) :: (St.eqT ?c25_18x7) :: (St.eqT ?c25_19x7) :: (St.eqT ?c25_20x7) :: (St.eqT ?c25_21x7) :: (St.eqT ?c25_22x7) :: (St.eqT ?c25_23x7) :: (St.eqT ?c25_24x7) :: (St.eqT ?c25_25x7) :: (St.eqT ?c25_26x7) :: []) rfl (by rfl) (fun w' => Run w0.heap.size w0 g h gx (.cells #[.int .u8 xk, .int .i64 xn, .string xs] 38 (0, 0)) w' v (.slice U l.length cu) l l base base (total l)) (fun w w' => w = w') ?hst ?h0 ?hB ?hop ?hend
            case hop =>
              refine ⟨?_, ?_, ?_, ?_, ?_, ?_, ?_, ?_, ?_, ?_, ?_, ?_, ?_, ?_, ?_, ?_, ?_, ?_, ?_, ?_, ?_, ?_, ?_, ?_, ?_, ?_, ?_, trivial⟩
              · intro w hB
                simp only [St.withD]
                refine St.ob_value (v := ?_) (w' := w) (by rfl) ?_ ⟨rfl, ?_⟩
                rotate_left
                · go_simp
                  with_reducible rfl
                · rfl
              · intro w hB; rintro _ ⟨_, rfl⟩
                simp only [St.withD, List.nil_append, List.cons_append, Act.put, List.setIfInBounds_toArray, List.set_cons_zero, List.set_cons_succ]
                refine St.ob_call Try.func9 (by kernel_rfl) rfl #[.pointer (some ⟨g, 0, none⟩)] (by rfl) rfl (by (try simp only [List.map_toArray, List.map_cons, List.map_nil]); first | done | rfl | (simp only [List.length_drop, List.length_take]; rfl)) ?_
                refine (len_any _ g _ _ _ _ w hB.both.log.log).mono ?_
                rintro e w1 ⟨rfl, rfl⟩
                refine ⟨_, rfl, rfl, ?_⟩
                rfl
              · intro w hB
                simp only [St.withD]
                refine St.ob_value (v := ?_) (w' := w) (by rfl) ?_ ⟨rfl, ?_⟩
                rotate_left
                · go_simp
                  with_reducible rfl
                · rfl
              · intro w hB; rintro _ ⟨_, rfl⟩
                simp only [St.withD, List.nil_append, List.cons_append, Act.put, List.setIfInBounds_toArray, List.set_cons_zero, List.set_cons_succ]
                refine St.ob_value (v := ?_) (w' := w) (by rfl) ?_ ⟨rfl, ?_⟩
                rotate_left
                · go_simp
                  with_reducible rfl
                · rfl
              · intro w hB; rintro _ ⟨_, rfl⟩
                simp only [St.withD, List.nil_append, List.cons_append, Act.put, List.setIfInBounds_toArray, List.set_cons_zero, List.set_cons_succ]
                refine St.ob_value (v := ?_) (w' := w) (by rfl) ?_ ⟨rfl, ?_⟩
                rotate_left
                · go_simp
                  with_reducible rfl
                · rfl
              · intro w hB; rintro _ ⟨_, rfl⟩
                simp only [St.withD, List.nil_append, List.cons_append, Act.put, List.setIfInBounds_toArray, List.set_cons_zero, List.set_cons_succ]
                have c0 : w.cell? ⟨h, 0, none⟩ = some (.slice U l.length cu) := (blk_cell hB.both.ref.box 0).trans rfl
                have c1 : w.cell? ⟨h, 1, none⟩ = some (.int .i64 base) := (blk_cell hB.both.ref.box 1).trans rfl
                refine St.ob_value (v := ?_) (w' := w) (by rfl) ?_ ⟨rfl, ?_⟩
                rotate_left
                · go_simp
                  with_reducible rfl
                · rfl
              · intro w hB; rintro _ ⟨_, rfl⟩
                simp only [St.withD, List.nil_append, List.cons_append, Act.put, List.setIfInBounds_toArray, List.set_cons_zero, List.set_cons_succ]
                refine St.ob_value (v := ?_) (w' := w) (by rfl) ?_ ⟨rfl, ?_⟩
                rotate_left
                · go_simp
                  with_reducible rfl
                · rfl
              · intro w hB; rintro _ ⟨_, rfl⟩ _ ⟨_, rfl⟩
                simp only [St.withD, List.nil_append, List.cons_append, Act.put, List.setIfInBounds_toArray, List.set_cons_zero, List.set_cons_succ]
                refine St.ob_value (v := ?_) (w' := w) (by rfl) ?_ ⟨rfl, ?_⟩
                rotate_left
                · go_simp
                  with_reducible rfl
                · rfl
              · intro w hB; rintro _ ⟨_, rfl⟩
                simp only [St.withD, List.nil_append, List.cons_append, Act.put, List.setIfInBounds_toArray, List.set_cons_zero, List.set_cons_succ]
                refine St.ob_value (v := ?_) (w' := w) (by rfl) ?_ ⟨rfl, ?_⟩
                rotate_left
                · go_simp
                  with_reducible rfl
                · rfl
              · intro w hB; rintro _ ⟨_, rfl⟩
                simp only [St.withD, List.nil_append, List.cons_append, Act.put, List.setIfInBounds_toArray, List.set_cons_zero, List.set_cons_succ]
                refine St.ob_value (v := ?_) (w' := w) (by rfl) ?_ ⟨rfl, ?_⟩
                rotate_left
                · go_simp
                  with_reducible rfl
                · rfl
              · intro w hB; rintro _ ⟨_, rfl⟩ _ ⟨_, rfl⟩
                simp only [St.withD, List.nil_append, List.cons_append, Act.put, List.setIfInBounds_toArray, List.set_cons_zero, List.set_cons_succ]
                refine St.ob_call Try.func17 (by kernel_rfl) rfl #[.pointer (some ⟨g, 0, none⟩)] (by rfl) rfl (by (try simp only [List.map_toArray, List.map_cons, List.map_nil]); first | done | rfl | (simp only [List.length_drop, List.length_take]; rfl)) ?_
                refine (base_any _ g _ _ _ _ w hB.both.log.log).mono ?_
                rintro e w1 ⟨rfl, rfl⟩
                refine ⟨_, rfl, rfl, ?_⟩
                rfl
              · intro w hB; rintro _ ⟨_, rfl⟩
                simp only [St.withD, List.nil_append, List.cons_append, Act.put, List.setIfInBounds_toArray, List.set_cons_zero, List.set_cons_succ]
                refine St.ob_value (v := ?_) (w' := w) (by rfl) ?_ ⟨rfl, ?_⟩
                rotate_left
                · go_simp
                  with_reducible rfl
                · rfl
              · intro w hB; rintro _ ⟨_, rfl⟩ _ ⟨_, rfl⟩
                simp only [St.withD, List.nil_append, List.cons_append, Act.put, List.setIfInBounds_toArray, List.set_cons_zero, List.set_cons_succ]
                refine St.ob_value (v := ?_) (w' := w) (by rfl) ?_ ⟨rfl, ?_⟩
                rotate_left
                · go_simp
                  with_reducible rfl
                · rfl
              · intro w hB; rintro _ ⟨_, rfl⟩ _ ⟨_, rfl⟩
                simp only [St.withD, List.nil_append, List.cons_append, Act.put, List.setIfInBounds_toArray, List.set_cons_zero, List.set_cons_succ]
                refine St.ob_value (v := ?_) (w' := w) (by rfl) ?_ ⟨rfl, ?_⟩
                rotate_left
                · go_simp
                  with_reducible rfl
                · rfl
              · intro w hB; rintro _ ⟨_, rfl⟩ _ ⟨_, rfl⟩
                simp only [St.withD, List.nil_append, List.cons_append, Act.put, List.setIfInBounds_toArray, List.set_cons_zero, List.set_cons_succ]
                have c0 : w.cell? ⟨h, 0, none⟩ = some (.slice U l.length cu) := (blk_cell hB.both.ref.box 0).trans rfl
                have c1 : w.cell? ⟨h, 1, none⟩ = some (.int .i64 base) := (blk_cell hB.both.ref.box 1).trans rfl
                refine St.ob_value (v := ?_) (w' := w) (by rfl) ?_ ⟨rfl, ?_⟩
                rotate_left
                · go_simp
                  with_reducible rfl
                · rfl
              · intro w hB; rintro _ ⟨_, rfl⟩ _ ⟨_, rfl⟩ _ ⟨_, rfl⟩
                simp only [St.withD, List.nil_append, List.cons_append, Act.put, List.setIfInBounds_toArray, List.set_cons_zero, List.set_cons_succ]
                refine St.ob_value (v := ?_) (w' := w) (by rfl) ?_ ⟨rfl, ?_⟩
                rotate_left
                · go_simp
                  with_reducible rfl
                · rfl
              · intro w hB; rintro _ ⟨_, rfl⟩ _ ⟨_, rfl⟩
                simp only [St.withD, List.nil_append, List.cons_append, Act.put, List.setIfInBounds_toArray, List.set_cons_zero, List.set_cons_succ]
                refine St.ob_value (v := ?_) (w' := w) (by rfl) ?_ ⟨rfl, ?_⟩
                rotate_left
                · go_simp
                  with_reducible rfl
                · rfl
              · intro w hB; rintro _ ⟨_, rfl⟩
                simp only [St.withD, List.nil_append, List.cons_append, Act.put, List.setIfInBounds_toArray, List.set_cons_zero, List.set_cons_succ]
                refine St.ob_value (v := ?_) (w' := w) (by rfl) ?_ ⟨rfl, ?_⟩
                rotate_left
                · go_simp
                  with_reducible rfl
                · rfl
              · intro w hB; rintro _ ⟨_, rfl⟩
                simp only [St.withD, List.nil_append, List.cons_append, Act.put, List.setIfInBounds_toArray, List.set_cons_zero, List.set_cons_succ]
                refine St.ob_value (v := ?_) (w' := w) (by rfl) ?_ ⟨rfl, ?_⟩
                rotate_left
                · go_simp
                  with_reducible rfl
                · rfl
              · intro w hB; rintro _ ⟨_, rfl⟩ _ ⟨_, rfl⟩
                simp only [St.withD, List.nil_append, List.cons_append, Act.put, List.setIfInBounds_toArray, List.set_cons_zero, List.set_cons_succ]
                refine St.ob_call Try.func10 (by kernel_rfl) rfl #[.pointer (some ⟨g, 0, none⟩)] (by rfl) rfl (by (try simp only [List.map_toArray, List.map_cons, List.map_nil]); first | done | rfl | (simp only [List.length_drop, List.length_take]; rfl)) ?_
                refine (bytes_any _ g _ _ _ _ w hB.both.log.log).mono ?_
                rintro e w1 ⟨rfl, rfl⟩
                refine ⟨_, rfl, rfl, ?_⟩
                rfl
              · intro w hB; rintro _ ⟨_, rfl⟩
                simp only [St.withD, List.nil_append, List.cons_append, Act.put, List.setIfInBounds_toArray, List.set_cons_zero, List.set_cons_succ]
                refine St.ob_value (v := ?_) (w' := w) (by rfl) ?_ ⟨rfl, ?_⟩
                rotate_left
                · go_simp
                  with_reducible rfl
                · rfl
              · intro w hB; rintro _ ⟨_, rfl⟩ _ ⟨_, rfl⟩
                simp only [St.withD, List.nil_append, List.cons_append, Act.put, List.setIfInBounds_toArray, List.set_cons_zero, List.set_cons_succ]
                refine St.ob_value (v := ?_) (w' := w) (by rfl) ?_ ⟨rfl, ?_⟩
                rotate_left
                · go_simp
                  with_reducible rfl
                · rfl
              · intro w hB; rintro _ ⟨_, rfl⟩ _ ⟨_, rfl⟩
                simp only [St.withD, List.nil_append, List.cons_append, Act.put, List.setIfInBounds_toArray, List.set_cons_zero, List.set_cons_succ]
                refine St.ob_value (v := ?_) (w' := w) (by rfl) ?_ ⟨rfl, ?_⟩
                rotate_left
                · go_simp
                  with_reducible rfl
                · rfl
              · intro w hB; rintro _ ⟨_, rfl⟩ _ ⟨_, rfl⟩
                simp only [St.withD, List.nil_append, List.cons_append, Act.put, List.setIfInBounds_toArray, List.set_cons_zero, List.set_cons_succ]
                have c0 : w.cell? ⟨h, 0, none⟩ = some (.slice U l.length cu) := (blk_cell hB.both.ref.box 0).trans rfl
                have c1 : w.cell? ⟨h, 1, none⟩ = some (.int .i64 base) := (blk_cell hB.both.ref.box 1).trans rfl
                refine St.ob_value (v := ?_) (w' := w) (by rfl) ?_ ⟨rfl, ?_⟩
                rotate_left
                · go_simp
                  with_reducible rfl
                · rfl
              · intro w hB; rintro _ ⟨_, rfl⟩ _ ⟨_, rfl⟩
                simp only [St.withD, List.nil_append, List.cons_append, Act.put, List.setIfInBounds_toArray, List.set_cons_zero, List.set_cons_succ]
                obtain ⟨A2, c2, e2, hc2, hr2⟩ := own_rds hB.both.ref.row
                cases e2
                refine St.ob_call Try.func18 (by kernel_rfl) rfl #[.slice U l.length cu] (by rfl) rfl (by (try simp only [List.map_toArray, List.map_cons, List.map_nil]); first | done | rfl | (simp only [List.length_drop, List.length_take]; rfl)) ?_
                refine (refBytes_any U l cu w hr2 (by have := HM1.out.1; omega) hc2 (fun s hs => Nat.le_trans (HM1.out.2.1 s hs) (by decide))).mono ?_
                rintro e w1 ⟨rfl, rfl⟩
                refine ⟨_, rfl, rfl, ?_⟩
                rfl
              · intro w hB; rintro _ ⟨_, rfl⟩ _ ⟨_, rfl⟩ _ ⟨_, rfl⟩
                simp only [St.withD, List.nil_append, List.cons_append, Act.put, List.setIfInBounds_toArray, List.set_cons_zero, List.set_cons_succ]
                refine St.ob_value (v := ?_) (w' := w) (by rfl) ?_ ⟨rfl, ?_⟩
                rotate_left
                · go_simp
                  with_reducible rfl
                · rfl
              · intro w hB; rintro _ ⟨_, rfl⟩ _ ⟨_, rfl⟩
                simp only [St.withD, List.nil_append, List.cons_append, Act.put, List.setIfInBounds_toArray, List.set_cons_zero, List.set_cons_succ]
                refine St.ob_value (v := ?_) (w' := w) (by rfl) ?_ ⟨rfl, ?_⟩
                rotate_left
                · go_simp
                  with_reducible rfl
                · rfl
            case hst => exact ⟨St.eqT_st, St.eqT_st, St.eqT_st, St.eqT_st, St.eqT_st, St.eqT_st, St.eqT_st, St.eqT_st, St.eqT_st, St.eqT_st, St.eqT_st, St.eqT_st, St.eqT_st, St.eqT_st, St.eqT_st, St.eqT_st, St.eqT_st, St.eqT_st, St.eqT_st, St.eqT_st, St.eqT_st, St.eqT_st, St.eqT_st, St.eqT_st, St.eqT_st, St.eqT_st, St.eqT_st, trivial⟩
            case h0 => exact HT.out.from (below_drew1 (Below.refl _ _))
            case hB => exact fun w w' hb e => e ▸ hb
            case hend =>
              intro w hB
              rintro _ rfl _ rfl _ rfl _ rfl _ rfl _ rfl _ rfl _ rfl _ rfl _ rfl _ rfl _ rfl _ rfl _ rfl _ rfl _ rfl _ rfl _ rfl _ rfl _ rfl _ rfl _ rfl _ rfl _ rfl _ rfl _ rfl _ rfl
              simp only [List.map_cons, List.map_nil, List.nil_append, List.cons_append, List.getD_cons_zero, List.getD_cons_succ, Act.put, List.setIfInBounds_toArray, List.set_cons_zero, List.set_cons_succ]
              rw [St.withE_nil]
              have HT := Aside0.mk hB.both
              clear hB
              go_wp2
              go_roundg (gk - 1)
              case measure => have := HK.out; omega
              case rel => exact ⟨k + 1, _, _, _, _, ⟨by have := HK.out; omega⟩, by go_num, HM1, HT⟩
      · obtain ⟨U, cu, hu, hcu, _⟩ := own_rds HT.out.ref.row
        subst hu
        have hl20 : l.length ≤ 100 := by have := HM.out.1; have := HK.out; omega
        have hbl : base ≤ l.length := HM.out.2.2
        have hbc : base ≤ cu := by omega
        have HTL : Aside0 ((l.take base).length = base) := ⟨by rw [List.length_take]; omega⟩
        go_wp2
        refine St.steadyR (n := 22) (by kernel_rfl) ([] :: [(0, 123)] :: [] :: [(2, 125)] :: [(3, 126)] :: [(4, 127)] :: [(1, 124), (5, 128)] :: [(6, 129)] :: [(7, 130)] :: [(7, 130), (8, 131)] :: [(7, 130)] :: [(7, 130), (10, 133)] :: [(7, 130), (11, 134)] :: [(7, 130), (12, 135)] :: [(7, 130)] :: [(7, 130), (14, 137)] :: [(7, 130), (15, 138)] :: [(7, 130), (16, 139)] :: [(7, 130), (13, 136), (17, 140)] :: [(7, 130), (9, 132), (18, 141)] :: [(7, 130), (19, 142)] :: [(20, 143)] :: []) (some 123 :: some 124 :: some 125 :: some 126 :: some 127 :: some 128 :: some 129 :: some 130 :: some 131 :: some 132 :: some 133 :: some 134 :: some 135 :: some 136 :: some 137 :: some 138 :: some 139 :: some 140 :: some 141 :: some 142 :: some 143 :: some 2 :: []) (by kernel_rfl) ((St.eqT ?c28_0x4) :: (fun _ v w => ∃ A c, v = .slice A l.length c ∧ l.length ≤ c ∧ RdS w A l) :: (St.eqT ?c28_2x4) :: (St.eqT ?c28_3x4) :: (St.eqT ?c28_4x4) :: (St.eqT ?c28_5x4) :: (St.eqT ?c28_6x4) :: (St.eqT ?c28_7x4) :: (St.eqT ?c28_8x4) :: (fun _ v w => ∃ A c, v = .slice A base c ∧ base ≤ c ∧ RdS w A (l.take base)) :: (St.eqT ?c28_10x4) :: (St.eqT ?c28_11x4) :: (St.eqT ?c28_12x4) :: (St.eqT ?c28_13x4) :: (St.eqT ?c28_14x4) :: (St.eqT ?c28_15x4) :: (St.eqT ?c28_16x4) :: (St.eqT ?c28_17x4) :: (St.eqT ?c28_18x4) :: (St.eqT ?c28_19x4) :: (St.eqT ?c28_20x4) :: (St.eqT ?c28_21x4) :: []) rfl (by rfl) (fun w' => Both w0.heap.size w0 g h w' v (.slice U l.length cu) l l base base (total l)) (fun w w' => Below w.heap.size w w') ?hst ?h0 ?hB ?hop ?hend
        case hop =>
          refine ⟨?_, ?_, ?_, ?_, ?_, ?_, ?_, ?_, ?_, ?_, ?_, ?_, ?_, ?_, ?_, ?_, ?_, ?_, ?_, ?_, ?_, ?_, trivial⟩
          · intro w hB
            simp only [St.withD]
            refine St.ob_value (v := ?_) (w' := w) (by rfl) ?_ ⟨Below.refl _ _, ?_⟩
            rotate_left
            · go_simp
              with_reducible rfl
            · rfl
          · intro w hB; rintro _ ⟨_, rfl⟩
            simp only [St.withD, List.nil_append, List.cons_append, Act.put, List.setIfInBounds_toArray, List.set_cons_zero, List.set_cons_succ]
            refine St.ob_call Try.func20 (by kernel_rfl) rfl #[.pointer (some ⟨g, 0, none⟩)] (by rfl) rfl (by (try simp only [List.map_toArray, List.map_cons, List.map_nil]); first | done | rfl | (simp only [List.length_drop, List.length_take]; rfl)) ?_
            refine (all_any _ g v l base _ w hB.log.log (by omega)).mono ?_
            rintro e w1 ⟨v, rfl, ho, hb⟩
            refine ⟨_, rfl, hb, ?_⟩
            exact own_rds ho
          · intro w hB
            simp only [St.withD]
            refine St.ob_value (v := ?_) (w' := w) (by rfl) ?_ ⟨Below.refl _ _, ?_⟩
            rotate_left
            · go_simp
              with_reducible rfl
            · rfl
          · intro w hB; rintro _ ⟨_, rfl⟩
            simp only [St.withD, List.nil_append, List.cons_append, Act.put, List.setIfInBounds_toArray, List.set_cons_zero, List.set_cons_succ]
            refine St.ob_value (v := ?_) (w' := w) (by rfl) ?_ ⟨Below.refl _ _, ?_⟩
            rotate_left
            · go_simp
              with_reducible rfl
            · rfl
          · intro w hB; rintro _ ⟨_, rfl⟩
            simp only [St.withD, List.nil_append, List.cons_append, Act.put, List.setIfInBounds_toArray, List.set_cons_zero, List.set_cons_succ]
            refine St.ob_value (v := ?_) (w' := w) (by rfl) ?_ ⟨Below.refl _ _, ?_⟩
            rotate_left
            · go_simp
              with_reducible rfl
            · rfl
          · intro w hB; rintro _ ⟨_, rfl⟩
            simp only [St.withD, List.nil_append, List.cons_append, Act.put, List.setIfInBounds_toArray, List.set_cons_zero, List.set_cons_succ]
            have c0 : w.cell? ⟨h, 0, none⟩ = some (.slice U l.length cu) := (blk_cell hB.ref.box 0).trans rfl
            have c1 : w.cell? ⟨h, 1, none⟩ = some (.int .i64 base) := (blk_cell hB.ref.box 1).trans rfl
            refine St.ob_value (v := ?_) (w' := w) (by rfl) ?_ ⟨Below.refl _ _, ?_⟩
            rotate_left
            · go_simp
              with_reducible rfl
            · rfl
          · intro w hB; rintro v1 ⟨ds1, ht1⟩ _ ⟨_, rfl⟩
            simp only [St.withD, List.nil_append, List.cons_append, Act.put, List.setIfInBounds_toArray, List.set_cons_zero, List.set_cons_succ]
            obtain ⟨A1, c1, rfl, hc1, hr1⟩ := ht1
            obtain ⟨A2, c2, e2, hc2, hr2⟩ := own_rds hB.ref.row
            cases e2
            refine St.ob_call Try.func19 (by kernel_rfl) rfl #[.slice A1 l.length c1, .slice U l.length cu] (by rfl) rfl (by (try simp only [List.map_toArray, List.map_cons, List.map_nil]); first | done | rfl | (simp only [List.length_drop, List.length_take]; rfl)) ?_
            refine (same_self A1 U l l.length c1 cu rfl w hr1 hr2 (by omega) hc1 hc2).mono ?_
            rintro e w1 ⟨rfl, hd⟩
            refine ⟨_, rfl, hd.below, ?_⟩
            rfl
          · intro w hB; rintro _ ⟨_, rfl⟩
            simp only [St.withD, List.nil_append, List.cons_append, Act.put, List.setIfInBounds_toArray, List.set_cons_zero, List.set_cons_succ]
            refine St.ob_value (v := ?_) (w' := w) (by rfl) ?_ ⟨Below.refl _ _, ?_⟩
            rotate_left
            · go_simp
              with_reducible rfl
            · rfl
          · intro w hB; rintro _ ⟨_, rfl⟩
            simp only [St.withD, List.nil_append, List.cons_append, Act.put, List.setIfInBounds_toArray, List.set_cons_zero, List.set_cons_succ]
            refine St.ob_value (v := ?_) (w' := w) (by rfl) ?_ ⟨Below.refl _ _, ?_⟩
            rotate_left
            · go_simp
              with_reducible rfl
            · rfl
          · intro w hB; rintro _ ⟨_, rfl⟩ _ ⟨_, rfl⟩
            simp only [St.withD, List.nil_append, List.cons_append, Act.put, List.setIfInBounds_toArray, List.set_cons_zero, List.set_cons_succ]
            refine St.ob_call Try.func12 (by kernel_rfl) rfl #[.pointer (some ⟨g, 0, none⟩)] (by rfl) rfl (by (try simp only [List.map_toArray, List.map_cons, List.map_nil]); first | done | rfl | (simp only [List.length_drop, List.length_take]; rfl)) ?_
            refine (old_any _ g v l base _ w hB.log.log (by omega) hbl).mono ?_
            rintro e w1 ⟨v, rfl, ho, hb⟩
            refine ⟨_, rfl, hb, ?_⟩
            exact (by obtain ⟨A, c, e, hc, hr⟩ := own_rds ho; rw [HTL.out] at e hc; exact ⟨A, c, e, hc, hr⟩)
          · intro w hB; rintro _ ⟨_, rfl⟩
            simp only [St.withD, List.nil_append, List.cons_append, Act.put, List.setIfInBounds_toArray, List.set_cons_zero, List.set_cons_succ]
            refine St.ob_value (v := ?_) (w' := w) (by rfl) ?_ ⟨Below.refl _ _, ?_⟩
            rotate_left
            · go_simp
              with_reducible rfl
            · rfl
          · intro w hB; rintro _ ⟨_, rfl⟩ _ ⟨_, rfl⟩
            simp only [St.withD, List.nil_append, List.cons_append, Act.put, List.setIfInBounds_toArray, List.set_cons_zero, List.set_cons_succ]
            refine St.ob_value (v := ?_) (w' := w) (by rfl) ?_ ⟨Below.refl _ _, ?_⟩
            rotate_left
            · go_simp
              with_reducible rfl
            · rfl
          · intro w hB; rintro _ ⟨_, rfl⟩ _ ⟨_, rfl⟩
            simp only [St.withD, List.nil_append, List.cons_append, Act.put, List.setIfInBounds_toArray, List.set_cons_zero, List.set_cons_succ]
            refine St.ob_value (v := ?_) (w' := w) (by rfl) ?_ ⟨Below.refl _ _, ?_⟩
            rotate_left
            · go_simp
              with_reducible rfl
            · rfl
          · intro w hB; rintro _ ⟨_, rfl⟩ _ ⟨_, rfl⟩
            simp only [St.withD, List.nil_append, List.cons_append, Act.put, List.setIfInBounds_toArray, List.set_cons_zero, List.set_cons_succ]
            have c0 : w.cell? ⟨h, 0, none⟩ = some (.slice U l.length cu) := (blk_cell hB.ref.box 0).trans rfl
            have c1 : w.cell? ⟨h, 1, none⟩ = some (.int .i64 base) := (blk_cell hB.ref.box 1).trans rfl
            refine St.ob_value (v := ?_) (w' := w) (by rfl) ?_ ⟨Below.refl _ _, ?_⟩
            rotate_left
            · go_simp
              with_reducible rfl
            · rfl
          · intro w hB; rintro _ ⟨_, rfl⟩
            simp only [St.withD, List.nil_append, List.cons_append, Act.put, List.setIfInBounds_toArray, List.set_cons_zero, List.set_cons_succ]
            refine St.ob_value (v := ?_) (w' := w) (by rfl) ?_ ⟨Below.refl _ _, ?_⟩
            rotate_left
            · go_simp
              with_reducible rfl
            · rfl
          · intro w hB; rintro _ ⟨_, rfl⟩ _ ⟨_, rfl⟩
            simp only [St.withD, List.nil_append, List.cons_append, Act.put, List.setIfInBounds_toArray, List.set_cons_zero, List.set_cons_succ]
            refine St.ob_value (v := ?_) (w' := w) (by rfl) ?_ ⟨Below.refl _ _, ?_⟩
            rotate_left
            · go_simp
              with_reducible rfl
            · rfl
          · intro w hB; rintro _ ⟨_, rfl⟩ _ ⟨_, rfl⟩
            simp only [St.withD, List.nil_append, List.cons_append, Act.put, List.setIfInBounds_toArray, List.set_cons_zero, List.set_cons_succ]
            refine St.ob_value (v := ?_) (w' := w) (by rfl) ?_ ⟨Below.refl _ _, ?_⟩
            rotate_left
            · go_simp
              with_reducible rfl
            · rfl
          · intro w hB; rintro _ ⟨_, rfl⟩ _ ⟨_, rfl⟩
            simp only [St.withD, List.nil_append, List.cons_append, Act.put, List.setIfInBounds_toArray, List.set_cons_zero, List.set_cons_succ]
            have c0 : w.cell? ⟨h, 0, none⟩ = some (.slice U l.length cu) := (blk_cell hB.ref.box 0).trans rfl
            have c1 : w.cell? ⟨h, 1, none⟩ = some (.int .i64 base) := (blk_cell hB.ref.box 1).trans rfl
            refine St.ob_value (v := ?_) (w' := w) (by rfl) ?_ ⟨Below.refl _ _, ?_⟩
            rotate_left
            · go_simp
              with_reducible rfl
            · rfl
          · intro w hB; rintro _ ⟨_, rfl⟩ _ ⟨_, rfl⟩ _ ⟨_, rfl⟩
            simp only [St.withD, List.nil_append, List.cons_append, Act.put, List.setIfInBounds_toArray, List.set_cons_zero, List.set_cons_succ]
            refine St.ob_value (v := .slice U base cu) (w' := w) (by rfl) ?_ ⟨Below.refl _ _, ?_⟩
            · go_simp
            · rfl
          · intro w hB; rintro _ ⟨_, rfl⟩ v9 ⟨ds9, ht9⟩ _ ⟨_, rfl⟩
            simp only [St.withD, List.nil_append, List.cons_append, Act.put, List.setIfInBounds_toArray, List.set_cons_zero, List.set_cons_succ]
            obtain ⟨A1, c1, rfl, hc1, hr1⟩ := ht9
            obtain ⟨A2, c2, e2, hc2, hr2⟩ := own_rds hB.ref.row
            cases e2
            refine St.ob_call Try.func19 (by kernel_rfl) rfl #[.slice A1 base c1, .slice U base cu] (by rfl) rfl (by (try simp only [List.map_toArray, List.map_cons, List.map_nil]); first | done | rfl | (simp only [List.length_drop, List.length_take]; rfl)) ?_
            refine (same_self A1 U (l.take base) base c1 cu HTL.out w hr1 (hr2.take base) (by omega) hc1 hbc).mono ?_
            rintro e w1 ⟨rfl, hd⟩
            refine ⟨_, rfl, hd.below, ?_⟩
            rfl
          · intro w hB; rintro _ ⟨_, rfl⟩ _ ⟨_, rfl⟩
            simp only [St.withD, List.nil_append, List.cons_append, Act.put, List.setIfInBounds_toArray, List.set_cons_zero, List.set_cons_succ]
            refine St.ob_value (v := ?_) (w' := w) (by rfl) ?_ ⟨Below.refl _ _, ?_⟩
            rotate_left
            · go_simp
              with_reducible rfl
            · rfl
          · intro w hB; rintro _ ⟨_, rfl⟩
            simp only [St.withD, List.nil_append, List.cons_append, Act.put, List.setIfInBounds_toArray, List.set_cons_zero, List.set_cons_succ]
            refine St.ob_value (v := ?_) (w' := w) (by rfl) ?_ ⟨Below.refl _ _, ?_⟩
            rotate_left
            · go_simp
              with_reducible rfl
            · rfl
        case hst => exact ⟨St.eqT_st, fun ds v w w' h hR => by (obtain ⟨A, c, e, hc, hr⟩ := h; exact ⟨A, c, e, hc, hr.below hR⟩), St.eqT_st, St.eqT_st, St.eqT_st, St.eqT_st, St.eqT_st, St.eqT_st, St.eqT_st, fun ds v w w' h hR => by (obtain ⟨A, c, e, hc, hr⟩ := h; exact ⟨A, c, e, hc, hr.below hR⟩), St.eqT_st, St.eqT_st, St.eqT_st, St.eqT_st, St.eqT_st, St.eqT_st, St.eqT_st, St.eqT_st, St.eqT_st, St.eqT_st, St.eqT_st, St.eqT_st, trivial⟩
        case h0 => exact HT.out.from (below_drew1 (Below.refl _ _))
        case hB => exact fun w w' h k => h.from k
        case hend =>
          intro w hB
          rintro _ rfl v1 ht1 _ rfl _ rfl _ rfl _ rfl _ rfl _ rfl _ rfl v9 ht9 _ rfl _ rfl _ rfl _ rfl _ rfl _ rfl _ rfl _ rfl _ rfl _ rfl _ rfl _ rfl
          simp only [List.map_cons, List.map_nil, List.nil_append, List.cons_append, List.getD_cons_zero, List.getD_cons_succ, Act.put, List.setIfInBounds_toArray, List.set_cons_zero, List.set_cons_succ]
          rw [St.withE_nil]
          have HF := Aside0.mk hB.log.below
          clear hB
          go_wp2
          go_ret
          exact ⟨rfl, HF.out⟩
end Go.Proofs.Ytfcpjblogeofpad
