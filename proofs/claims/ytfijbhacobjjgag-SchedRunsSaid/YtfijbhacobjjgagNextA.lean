/- A schedule's Next. -/
import Derived.Test.YtfijbhacobjjgagPutA
import Derived.Laws.ResultCell
namespace Go.Proofs.Ytfijbhacobjjgag
open Go.RowKit Go.Proofs.YtfijbhacobjjgagW.PrintWords Go.Proofs.YtfijbhacobjjgagW.PrintLast Go.Proofs.YtfijbhacobjjgagW.PrintMore Go.Proofs.Ytfijbhacobjjgag.Fr
set_option linter.unusedVariables false
set_option linter.unusedSimpArgs false
attribute [local go_sem] max2_int min2_int max_two min_two

open Pl Hp
section
variable {B s : Nat} {w w1 : World} {v v1 : Value} {now ord : Int} {l l1 : List E}
theorem SC.far (h : SC B w s v now ord l) {x i : Nat} {u : Value} (h1 : x ≠ s) (h2 : v.ownBlock ≠ some x) : SC B (w.setCell ⟨x, i, none⟩ u) s v now ord l := ⟨blk_far h.box (p := ⟨x, i, none⟩) (Ne.symm h1) u, own_setCell h.row (fun e => h2 e.symm) _, h.ne, h.lo⟩
theorem assert_okE (x : E) (w : World) : (Instr.typeAssert (.iface 57 (.agg (enc x).toArray)) 20 57 true).run Try.prog w = .ok (.tuple #[.agg #[.int .i64 x.t, .int .i64 x.o, .int .i64 x.a.k, .int .i64 x.a.nd, .int .i64 x.a.n, .bool x.a.up, .string x.a.s], .bool true]) w := assert_ok x w
theorem next_none (w0 : World) (h : SC B w0 s v now ord []) : Calls Try.prog 9 #[.pointer (some ⟨s, 0, none⟩)] w0 fun e w' => e = .returned (.tuple #[.agg #[.int .i64 0, .int .i64 0, .int .i64 0, .bool false, .string ⟨#[]⟩], .bool false]) ∧ Below w0.heap.size w0 w' := by
  have hal : Below w0.heap.size w0 (w0.alloc (.cells #[.int .i64 0, .int .i64 0, .int .i64 0, .bool false, .string ⟨#[]⟩] 28)) := below_alloc (Below.refl _ _) _
  have H := Aside0.mk h
  clear h
  go_enter Try.func9, Try.ntmps9
  go_wp2_with fail
  refine (len_any (H.out.below (below_alloc (Below.refl _ _) _))).mono ?_
  rintro e w1 ⟨rfl, rfl⟩
  go_wp2
  refine bodyPost_ret (v := .tuple #[.agg #[.int .i64 0, .int .i64 0, .int .i64 0, .bool false, .string ⟨#[]⟩], .bool false]) ?_ rfl ?_
  · rw [results_cell_tmp rfl]
    go_simp
  · exact ⟨rfl, hal⟩
def NextPost (B s : Nat) (v : Value) (now ord : Int) (l : List E) (m : Nat) (W : World) (e : Ending) (w' : World) : Prop :=
  ∃ (y : E) (v1 : Value), y = (down elt ez (swp ez l 0 m) 0 m).getD m ez ∧ e = .returned (.tuple #[actV y.a, .bool true]) ∧ SC B w' s v1 (max now y.t) ord (pop elt ez l) ∧ Ch (fun k => k = s ∨ some k = v.ownBlock) W w' ∧ v1.ownBlock = v.ownBlock
set_option maxHeartbeats 1000000 in
theorem next_any (m : Nat) (w0 : World) (h : SC B w0 s v now ord l) (hl : l.length = m + 1) (hm : m ≤ 10000) : Calls Try.prog 9 #[.pointer (some ⟨s, 0, none⟩)] w0 (NextPost B s v now ord l m w0) := by
  obtain ⟨g, c, rfl⟩ : ∃ g c, v = .slice (some ⟨g, 0, none⟩) l.length c := by
    rcases h.row.2 with ⟨_, h0⟩ | ⟨g, cap, cur, rfl, _⟩
    · omega
    · exact ⟨g, cap, rfl⟩
  have H := Aside0.mk h
  have HL := Aside0.mk hl
  rw [hl] at H ⊢
  have hne : s ≠ g := fun e => H.out.ne (by rw [e]; rfl)
  have hal : Below w0.heap.size w0 (w0.alloc (.cells #[.int .i64 0, .int .i64 0, .int .i64 0, .bool false, .string ⟨#[]⟩] 28)) := below_alloc (Below.refl _ _) _
  have HX2 : Aside0 ((w0.alloc (.cells #[.int .i64 0, .int .i64 0, .int .i64 0, .bool false, .string ⟨#[]⟩] 28)).heap[w0.heap.size]? = some (.cells #[.int .i64 0, .int .i64 0, .int .i64 0, .bool false, .string ⟨#[]⟩] 28 (0, 0))) := ⟨blk_new w0 _⟩
  have H1 := Aside0.mk (H.out.below hal)
  have HAL := Aside0.mk hal
  have HPO : Aside0 ((pop elt ez l).length = m) := ⟨by
    unfold pop
    rw [HL.out, Nat.add_sub_cancel, List.length_take, (down_perm elt ez m m 0 (swp ez l 0 m) (by omega) (by rw [swp_len, HL.out]; omega)).2.1, swp_len, HL.out]
    omega⟩
  have hq : (((m + 1 : Nat) : Int) == 0) = false := beq_eq_false_iff_ne.2 (by omega)
  have hq2 : (((m : Int) + 1) == 0) = false := beq_eq_false_iff_ne.2 (by omega)
  clear h hl hal
  go_enter Try.func9, Try.ntmps9
  go_wp2_with fail
  generalize w0.alloc (.cells #[.int .i64 0, .int .i64 0, .int .i64 0, .bool false, .string ⟨#[]⟩] 28) = W1 at HX2 H1 HAL ⊢
  obtain ⟨x2, hx2⟩ : ∃ x2, w0.heap.size = x2 := ⟨_, rfl⟩
  rw [hx2] at HX2 ⊢
  have hln := len_any H1.out
  rw [HL.out] at hln
  refine hln.mono ?_
  rintro e w1 ⟨rfl, rfl⟩
  clear hln
  go_wp2_with fail
  have hrow : HR B W1 g c l := by
    have := H1.out.row
    unfold HR
    rw [HL.out] at this ⊢
    exact this
  refine (hpop_any B s g c m (.int .i64 now) (.int .i64 ord) 52 l W1 H1.out.box hrow hne HL.out hm).mono ?_
  rintro e w2 ⟨rfl, hb2, hr2, hc2⟩
  obtain ⟨y, hy⟩ : ∃ y, (down elt ez (swp ez l 0 m) 0 m).getD m ez = y := ⟨_, rfl⟩
  rw [hy]
  have HY := Aside0.mk hy
  have hta := assert_okE y
  have hx2g : x2 ≠ g := fun e => by have := own_lt H.out.row g rfl; omega
  have hx2s : x2 ≠ s := fun e => by have := blk_lt H.out.box; omega
  have HB2 := Aside0.mk (And.intro hb2 (And.intro hr2 hc2))
  have HX3 : Aside0 (w2.heap[x2]? = some (.cells #[.int .i64 0, .int .i64 0, .int .i64 0, .bool false, .string ⟨#[]⟩] 28 (0, 0))) := ⟨hc2.blk HX2.out (by rintro (e | e); exact hx2s e; exact hx2g e)⟩
  clear hb2 hr2 hc2 hrow hy HX2
  go_wp2
  have hbl : Below w2.heap.size w2 (w2.alloc (.cells #[.int .i64 y.t, .int .i64 y.o, .int .i64 y.a.k, .int .i64 y.a.nd, .int .i64 y.a.n, .bool y.a.up, .string y.a.s] 57)) := below_alloc (Below.refl _ _) _
  have HZ0 : Aside0 (((w2.alloc (.cells #[.int .i64 y.t, .int .i64 y.o, .int .i64 y.a.k, .int .i64 y.a.nd, .int .i64 y.a.n, .bool y.a.up, .string y.a.s] 57)).heap[s]? = some (.cells #[.slice (some ⟨g, 0, none⟩) m c, .int .i64 now, .int .i64 ord] 52 (0, 0)) ∧ (w2.alloc (.cells #[.int .i64 y.t, .int .i64 y.o, .int .i64 y.a.k, .int .i64 y.a.nd, .int .i64 y.a.n, .bool y.a.up, .string y.a.s] 57)).heap[w2.heap.size]? = some (.cells #[.int .i64 y.t, .int .i64 y.o, .int .i64 y.a.k, .int .i64 y.a.nd, .int .i64 y.a.n, .bool y.a.up, .string y.a.s] 57 (0, 0))) ∧ (w2.alloc (.cells #[.int .i64 y.t, .int .i64 y.o, .int .i64 y.a.k, .int .i64 y.a.nd, .int .i64 y.a.n, .bool y.a.up, .string y.a.s] 57)).heap[x2]? = some (.cells #[.int .i64 0, .int .i64 0, .int .i64 0, .bool false, .string ⟨#[]⟩] 28 (0, 0)) ∧ HR B (w2.alloc (.cells #[.int .i64 y.t, .int .i64 y.o, .int .i64 y.a.k, .int .i64 y.a.nd, .int .i64 y.a.n, .bool y.a.up, .string y.a.s] 57)) g c (pop elt ez l) ∧ Ch (fun k => k = s ∨ k = g) W1 (w2.alloc (.cells #[.int .i64 y.t, .int .i64 y.o, .int .i64 y.a.k, .int .i64 y.a.nd, .int .i64 y.a.n, .bool y.a.up, .string y.a.s] 57))) := ⟨⟨blk_below HB2.out.1 hbl, blk_new w2 _⟩, blk_below HX3.out hbl, HB2.out.2.1.below hbl, HB2.out.2.2.alloc _⟩
  clear hbl HX3 hta
  generalize w2.alloc (.cells #[.int .i64 y.t, .int .i64 y.o, .int .i64 y.a.k, .int .i64 y.a.nd, .int .i64 y.a.n, .bool y.a.up, .string y.a.s] 57) = W at HZ0 ⊢
  obtain ⟨x4, hx4⟩ : ∃ x4, w2.heap.size = x4 := ⟨_, rfl⟩
  rw [hx4] at HZ0 ⊢
  clear hx4 HB2
  obtain ⟨wd, hwd⟩ : ∃ wd, W.drew = wd := ⟨_, rfl⟩
  have HZ : Aside0 (((wd.heap[s]? = some (.cells #[.slice (some ⟨g, 0, none⟩) m c, .int .i64 now, .int .i64 ord] 52 (0, 0)) ∧ wd.heap[x4]? = some (.cells #[.int .i64 y.t, .int .i64 y.o, .int .i64 y.a.k, .int .i64 y.a.nd, .int .i64 y.a.n, .bool y.a.up, .string y.a.s] 57 (0, 0))) ∧ wd.heap[x2]? = some (.cells #[.int .i64 0, .int .i64 0, .int .i64 0, .bool false, .string ⟨#[]⟩] 28 (0, 0)) ∧ HR B wd g c (pop elt ez l) ∧ Ch (fun k => k = s ∨ k = g) W1 wd)) := ⟨hwd ▸ ⟨HZ0.out.1, HZ0.out.2.1, HZ0.out.2.2.1, HZ0.out.2.2.2.drew⟩⟩
  have HS := Aside0.mk HZ.out.1
  obtain ⟨nw, hnw⟩ : ∃ nw, max now y.t = nw := ⟨_, rfl⟩
  have HNW := Aside0.mk hnw
  clear HZ0 hnw
  refine St.steadyW (n := 11) (by kernel_rfl) ([] :: [] :: [(1, 20)] :: [(2, 21)] :: [(3, 22)] :: [] :: [(5, 24)] :: [(4, 23), (6, 25)] :: [(0, 19)] :: [(8, 27)] :: [(7, 26), (9, 28)] :: []) (some 19 :: some 20 :: some 21 :: some 22 :: some 23 :: some 24 :: some 25 :: some 26 :: some 27 :: some 28 :: none :: []) (by kernel_rfl) 10 (0 :: 0 :: 0 :: 0 :: 0 :: 0 :: 0 :: 0 :: 0 :: 0 :: 1 :: []) (by kernel_rfl) rfl (by decide) ((St.eqT ?c4_0x5) :: (St.eqT ?c4_1x5) :: (St.eqT ?c4_2x5) :: (St.eqT ?c4_3x5) :: (St.eqT ?c4_4x5) :: (St.eqT ?c4_5x5) :: (St.eqT ?c4_6x5) :: (St.eqT (.int .i64 nw)) :: (St.eqT ?c4_8x5) :: (St.eqT ?c4_9x5) :: (St.eqT undef) :: []) rfl (by rfl) (fun w' => w' = wd) (fun w w' => w = w') (fun w w' => w' = w.setCell ⟨s, 1, none⟩ (.int .i64 nw)) (fun w' => w' = wd.setCell ⟨s, 1, none⟩ (.int .i64 nw)) (fun w w' => w = w') ?hst ?h0 ?hB ?hC ?hop ?hend
  case hop =>
    refine ⟨?_, ?_, ?_, ?_, ?_, ?_, ?_, ?_, ?_, ?_, ?_, trivial⟩
    · intro w hB
      simp only [St.withD]
      refine St.ob_value (v := ?_) (w' := w) (by rfl) ?_ ⟨rfl, ?_⟩
      rotate_left
      · go_simp
        with_reducible rfl
      · rfl
    · intro w hB
      simp only [St.withD]
      refine St.ob_value (v := ?_) (w' := w) (by rfl) ?_ ⟨rfl, ?_⟩
      rotate_left
      · go_simp
        with_reducible rfl
      · rfl
    · intro w hB; rintro _ ⟨_, rfl⟩
      simp only [St.withD, List.nil_append, List.cons_append, Act.put, List.setIfInBounds_toArray, List.set_cons_zero, List.set_cons_succ]
      refine St.ob_value (v := ?_) (w' := w) (by rfl) ?_ ⟨rfl, ?_⟩
      rotate_left
      · go_simp
        with_reducible rfl
      · rfl
    · intro w hB; rintro _ ⟨_, rfl⟩
      simp only [St.withD, List.nil_append, List.cons_append, Act.put, List.setIfInBounds_toArray, List.set_cons_zero, List.set_cons_succ]
      refine St.ob_value (v := ?_) (w' := w) (by rfl) ?_ ⟨rfl, ?_⟩
      rotate_left
      · go_simp
        with_reducible rfl
      · rfl
    · intro w hB; rintro _ ⟨_, rfl⟩
      simp only [St.withD, List.nil_append, List.cons_append, Act.put, List.setIfInBounds_toArray, List.set_cons_zero, List.set_cons_succ]
      have hs := HS.out
      rw [← hB] at hs
      have c1 : w.cell? ⟨s, 1, none⟩ = some (.int .i64 now) := (blk_cell hs.1 1).trans rfl
      have b0 : w.cell? ⟨x4, 0, none⟩ = some (.int .i64 y.t) := (blk_cell hs.2 0).trans rfl
      refine St.ob_value (v := ?_) (w' := w) (by rfl) ?_ ⟨rfl, ?_⟩
      rotate_left
      · go_simp
        with_reducible rfl
      · rfl
    · intro w hB
      simp only [St.withD]
      refine St.ob_value (v := ?_) (w' := w) (by rfl) ?_ ⟨rfl, ?_⟩
      rotate_left
      · go_simp
        with_reducible rfl
      · rfl
    · intro w hB; rintro _ ⟨_, rfl⟩
      simp only [St.withD, List.nil_append, List.cons_append, Act.put, List.setIfInBounds_toArray, List.set_cons_zero, List.set_cons_succ]
      have hs := HS.out
      rw [← hB] at hs
      have c1 : w.cell? ⟨s, 1, none⟩ = some (.int .i64 now) := (blk_cell hs.1 1).trans rfl
      have b0 : w.cell? ⟨x4, 0, none⟩ = some (.int .i64 y.t) := (blk_cell hs.2 0).trans rfl
      refine St.ob_value (v := ?_) (w' := w) (by rfl) ?_ ⟨rfl, ?_⟩
      rotate_left
      · go_simp
        with_reducible rfl
      · rfl
    · intro w hB; rintro _ ⟨_, rfl⟩ _ ⟨_, rfl⟩
      simp only [St.withD, List.nil_append, List.cons_append, Act.put, List.setIfInBounds_toArray, List.set_cons_zero, List.set_cons_succ]
      refine St.ob_value (v := .int .i64 nw) (w' := w) (by rfl) ?_ ⟨rfl, rfl⟩
      clear hB
      by_cases hm : now < y.t
      · have e : nw = y.t := by rw [← HNW.out]; omega
        rw [e]
        go_simp
        try omega
      · have e : nw = now := by rw [← HNW.out]; omega
        rw [e]
        go_simp
        try omega
    · intro w hB; rintro _ ⟨_, rfl⟩
      simp only [St.withD, List.nil_append, List.cons_append, Act.put, List.setIfInBounds_toArray, List.set_cons_zero, List.set_cons_succ]
      refine St.ob_value (v := ?_) (w' := w) (by rfl) ?_ ⟨rfl, ?_⟩
      rotate_left
      · go_simp
        with_reducible rfl
      · rfl
    · intro w hB; rintro _ ⟨_, rfl⟩
      simp only [St.withD, List.nil_append, List.cons_append, Act.put, List.setIfInBounds_toArray, List.set_cons_zero, List.set_cons_succ]
      refine St.ob_value (v := ?_) (w' := w) (by rfl) ?_ ⟨rfl, ?_⟩
      rotate_left
      · go_simp
        with_reducible rfl
      · rfl
    · intro w hB; rintro _ ⟨_, rfl⟩ _ ⟨_, rfl⟩
      simp only [St.withD, List.nil_append, List.cons_append, Act.put, List.setIfInBounds_toArray, List.set_cons_zero, List.set_cons_succ]
      have hs := HS.out
      rw [← hB] at hs
      have c1 : w.cell? ⟨s, 1, none⟩ = some (.int .i64 now) := (blk_cell hs.1 1).trans rfl
      have f1 := blk_frozen hs.1 1
      refine St.ob_skip (w' := w.setCell ⟨s, 1, none⟩ (.int .i64 nw)) (by rfl) ?_ ⟨⟨rfl, by rw [hB]⟩, rfl⟩
      clear hs hB
      go_simp
  case hst => exact ⟨St.eqT_st, St.eqT_st, St.eqT_st, St.eqT_st, St.eqT_st, St.eqT_st, St.eqT_st, St.eqT_st, St.eqT_st, St.eqT_st, St.eqT_st, trivial⟩
  case h0 => exact hwd
  case hB => exact fun w w' h e => e ▸ h
  case hC => (intro w w' h e; subst e; exact h)
  case hend =>
    intro w hB
    rintro _ rfl _ rfl _ rfl _ rfl _ rfl _ rfl _ rfl _ rfl _ rfl _ rfl _ rfl
    simp only [List.map_cons, List.map_nil, List.nil_append, List.cons_append, List.getD_cons_zero, List.getD_cons_succ, Act.put, List.setIfInBounds_toArray, List.set_cons_zero, List.set_cons_succ]
    rw [St.withE_nil]
    subst hB
    have hx4s := blk_ne HZ.out.1.2 HZ.out.1.1 (by decide)
    have hbx := blk_put HZ.out.1.1 1 (.int .i64 nw) rfl
    have hx4b := blk_far HZ.out.1.2 (p := ⟨s, 1, none⟩) hx4s (.int .i64 nw)
    have hx2b := blk_far HZ.out.2.1 (p := ⟨s, 1, none⟩) hx2s (.int .i64 nw)
    have a2 : (wd.setCell ⟨s, 1, none⟩ (.int .i64 nw)).cell? ⟨x4, 2, none⟩ = some (.int .i64 y.a.k) := (blk_cell hx4b 2).trans rfl
    have a3 : (wd.setCell ⟨s, 1, none⟩ (.int .i64 nw)).cell? ⟨x4, 3, none⟩ = some (.int .i64 y.a.nd) := (blk_cell hx4b 3).trans rfl
    have a4 : (wd.setCell ⟨s, 1, none⟩ (.int .i64 nw)).cell? ⟨x4, 4, none⟩ = some (.int .i64 y.a.n) := (blk_cell hx4b 4).trans rfl
    have a5 : (wd.setCell ⟨s, 1, none⟩ (.int .i64 nw)).cell? ⟨x4, 5, none⟩ = some (.bool y.a.up) := (blk_cell hx4b 5).trans rfl
    have a6 : (wd.setCell ⟨s, 1, none⟩ (.int .i64 nw)).cell? ⟨x4, 6, none⟩ = some (.string y.a.s) := (blk_cell hx4b 6).trans rfl
    have k0 : (wd.setCell ⟨s, 1, none⟩ (.int .i64 nw)).cell? ⟨x2, 0, none⟩ = some (.int .i64 0) := (blk_cell hx2b 0).trans rfl
    have k1 : (wd.setCell ⟨s, 1, none⟩ (.int .i64 nw)).cell? ⟨x2, 1, none⟩ = some (.int .i64 0) := (blk_cell hx2b 1).trans rfl
    have k2 : (wd.setCell ⟨s, 1, none⟩ (.int .i64 nw)).cell? ⟨x2, 2, none⟩ = some (.int .i64 0) := (blk_cell hx2b 2).trans rfl
    have k3 : (wd.setCell ⟨s, 1, none⟩ (.int .i64 nw)).cell? ⟨x2, 3, none⟩ = some (.bool false) := (blk_cell hx2b 3).trans rfl
    have k4 : (wd.setCell ⟨s, 1, none⟩ (.int .i64 nw)).cell? ⟨x2, 4, none⟩ = some (.string ⟨#[]⟩) := (blk_cell hx2b 4).trans rfl
    have f0 := blk_frozen hx2b 0
    have f1 := blk_frozen hx2b 1
    have f2 := blk_frozen hx2b 2
    have f3 := blk_frozen hx2b 3
    have f4 := blk_frozen hx2b 4
    have fin : SC B (wd.setCell ⟨s, 1, none⟩ (.int .i64 nw)) s (.slice (some ⟨g, 0, none⟩) m c) nw ord (pop elt ez l) := ⟨hbx, by
      have hp := HPO.out
      have := own_setCell (p := ⟨s, 1, none⟩) HZ.out.2.2.1 (fun e => hne (by cases e; rfl)) (.int .i64 nw)
      rw [hp] at this ⊢
      exact this, fun e => hne (by cases e; rfl), H.out.lo⟩
    have finC : Ch (fun k => k = s ∨ some k = some g) w0 (wd.setCell ⟨s, 1, none⟩ (.int .i64 nw)) := ((Ch.of_below HAL.out).trans (HZ.out.2.2.2.mono fun i _ e => by rcases e with e | e; exact .inl e; exact .inr (by rw [e]))).set (.inl rfl)
    have FIN := Aside0.mk (And.intro fin finC)
    have HX2 := Aside0.mk hx2b
    clear fin finC hbx hx4b hx2b hx4s
    generalize wd.setCell ⟨s, 1, none⟩ (.int .i64 nw) = wz at FIN HX2 a2 a3 a4 a5 a6 k0 k1 k2 k3 k4 f0 f1 f2 f3 f4 ⊢
    go_wp2
    refine bodyPost_ret (v := .tuple #[.agg #[.int .i64 y.a.k, .int .i64 y.a.nd, .int .i64 y.a.n, .bool y.a.up, .string y.a.s], .bool true]) ?_ rfl ?_
    · rw [results_cell_tmp rfl]
      go_simp
    · have hg2 : (Value.slice (some ⟨g, 0, none⟩) m c).ownBlock ≠ some x2 := fun e => hx2g (by cases e; rfl)
      have hxx : w0.heap.size ≤ x2 := by omega
      refine ⟨y, .slice (some ⟨g, 0, none⟩) m c, HY.out.symm, rfl, ?_, ?_, rfl⟩
      · rw [HNW.out]
        exact ((((FIN.out.1.far hx2s hg2).far hx2s hg2).far hx2s hg2).far hx2s hg2).far hx2s hg2
      · exact ((((FIN.out.2.setNew hxx).setNew hxx).setNew hxx).setNew hxx).setNew hxx
end
end Go.Proofs.Ytfijbhacobjjgag
