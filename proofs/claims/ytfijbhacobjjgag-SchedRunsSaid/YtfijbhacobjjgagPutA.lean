/- A schedule's Put. -/
import Derived.Test.YtfijbhacobjjgagSchedA
namespace Go.Proofs.Ytfijbhacobjjgag
open Go.RowKit Go.Proofs.YtfijbhacobjjgagW.PrintWords Go.Proofs.YtfijbhacobjjgagW.PrintLast Go.Proofs.YtfijbhacobjjgagW.PrintMore Go.Proofs.Ytfijbhacobjjgag.Fr
set_option linter.unusedVariables false
set_option linter.unusedSimpArgs false
attribute [local go_sem] max2_int min2_int max_two min_two

open Pl Hp
section
variable {B s : Nat} {w w1 : World} {v v1 : Value} {now ord : Int} {l l1 : List E}
def actV (a : Ac) : Value := .agg #[.int .i64 a.k, .int .i64 a.nd, .int .i64 a.n, .bool a.up, .string a.s]
def putT (now after : Int) : Int := min (now + brI after 0 1073741824) 1099511627776
def PutPost (B s : Nat) (v : Value) (now ord after : Int) (l : List E) (a : Ac) (w : World) (e : Ending) (w' : World) : Prop :=
  ∃ v1, e = .returned (.bool true) ∧ SC B w' s v1 now (ord + 1) (psh elt ez l ⟨putT now after, ord + 1, a⟩) ∧ Ch (fun k => k = s ∨ some k = v.ownBlock) w w' ∧ ∀ k, v1.ownBlock = some k → v.ownBlock = some k ∨ w.heap.size ≤ k
set_option maxHeartbeats 1000000 in
theorem put_any (after : Int) (a : Ac) (w0 : World) (h : SC B w0 s v now ord l) (hB : B ≤ w0.heap.size) (hl : l.length < 1000) (hn0 : 0 ≤ now) (hn1 : now ≤ 1099511627776) (ho0 : 0 ≤ ord) (ho1 : ord ≤ 1000000) :
    Calls Try.prog 8 #[.pointer (some ⟨s, 0, none⟩), .int .i64 after, actV a] w0 (PutPost B s v now ord after l a w0) := by
  obtain ⟨A, c, hv, _⟩ := h.slice
  have hbx := h.box
  have c0 : w0.cell? ⟨s, 0, none⟩ = some (.slice A l.length c) := hv ▸ (blk_cell hbx 0).trans rfl
  have c2 : w0.cell? ⟨s, 2, none⟩ = some (.int .i64 ord) := (blk_cell hbx 2).trans rfl
  have f2 := blk_frozen hbx 2
  have hslt := blk_lt hbx
  have H := Aside0.mk h
  have hw1 : IntKind.i64.wrap (ord + 1) = ord + 1 := by rw [IntKind.wrap_i64]; omega
  have hll : ¬ (1000 : Int) ≤ l.length := by omega
  clear h hv hbx
  unfold actV
  obtain ⟨tm, htm⟩ : ∃ tm, putT now after = tm := ⟨_, rfl⟩
  have HTM := Aside0.mk htm
  have HBR : Aside0 (0 ≤ brI after 0 1073741824 ∧ brI after 0 1073741824 ≤ 1073741824) := ⟨by unfold brI; omega⟩
  clear htm
  go_enter Try.func8, Try.ntmps8
  go_wp2
  have HCW0 : Ch (fun k => k = s) w0 ((w0.setCell ⟨s, 2, none⟩ (.int .i64 (ord + 1))).alloc (.cells #[.int .i64 a.k, .int .i64 a.nd, .int .i64 a.n, .bool a.up, .string a.s] 28)) := ((Ch.refl (fun k => k = s) w0).set rfl).alloc _
  have HS0 : Aside0 (((w0.setCell ⟨s, 2, none⟩ (.int .i64 (ord + 1))).alloc (.cells #[.int .i64 a.k, .int .i64 a.nd, .int .i64 a.n, .bool a.up, .string a.s] 28)).heap[s]? = some (.cells #[v, .int .i64 now, .int .i64 (ord + 1)] 52 (0, 0)) ∧ ((w0.setCell ⟨s, 2, none⟩ (.int .i64 (ord + 1))).alloc (.cells #[.int .i64 a.k, .int .i64 a.nd, .int .i64 a.n, .bool a.up, .string a.s] 28)).heap[w0.heap.size]? = some (.cells #[.int .i64 a.k, .int .i64 a.nd, .int .i64 a.n, .bool a.up, .string a.s] 28 (0, 0)) ∧ ((w0.setCell ⟨s, 2, none⟩ (.int .i64 (ord + 1))).alloc (.cells #[.int .i64 a.k, .int .i64 a.nd, .int .i64 a.n, .bool a.up, .string a.s] 28)).ownsRow B 57 7 v l.length (ents l) ∧ some s ≠ v.ownBlock ∧ B ≤ ((w0.setCell ⟨s, 2, none⟩ (.int .i64 (ord + 1))).alloc (.cells #[.int .i64 a.k, .int .i64 a.nd, .int .i64 a.n, .bool a.up, .string a.s] 28)).heap.size) := ⟨by
    have hb2 := blk_put H.out.box 2 (.int .i64 (ord + 1)) rfl
    have hszz : (w0.setCell ⟨s, 2, none⟩ (.int .i64 (ord + 1))).heap.size = w0.heap.size := by simp [World.setCell]
    have hbl := below_alloc (Below.refl (w0.setCell ⟨s, 2, none⟩ (.int .i64 (ord + 1))).heap.size (w0.setCell ⟨s, 2, none⟩ (.int .i64 (ord + 1)))) (.cells #[.int .i64 a.k, .int .i64 a.nd, .int .i64 a.n, .bool a.up, .string a.s] 28)
    refine ⟨blk_below hb2 hbl, ?_, pw_own_below (own_setCell H.out.row H.out.ne _) hbl, H.out.ne, Nat.le_trans hB HCW0.size⟩
    have := blk_new (w0.setCell ⟨s, 2, none⟩ (.int .i64 (ord + 1))) (.cells #[.int .i64 a.k, .int .i64 a.nd, .int .i64 a.n, .bool a.up, .string a.s] 28)
    rwa [hszz] at this⟩
  have HLO := Aside0.mk H.out.lo
  have HPL : Aside0 ((psh elt ez l ⟨tm, ord + 1, a⟩).length = l.length + 1) := ⟨by
    unfold psh
    have hz := (up_perm elt ez l.length (l ++ [(⟨tm, ord + 1, a⟩ : E)]) (by simp)).2
    rw [hz]; simp⟩
  clear c0 c2 f2 hslt H hw1 hB
  generalize (w0.setCell ⟨s, 2, none⟩ (.int .i64 (ord + 1))).alloc (.cells #[.int .i64 a.k, .int .i64 a.nd, .int .i64 a.n, .bool a.up, .string a.s] 28) = W at HCW0 HS0 ⊢
  obtain ⟨x5, hx5⟩ : ∃ x5, w0.heap.size = x5 := ⟨_, rfl⟩
  rw [hx5] at HS0 ⊢
  obtain ⟨wd, hwd⟩ : ∃ wd, W.drew = wd := ⟨_, rfl⟩
  have HS : Aside0 (wd.heap[s]? = some (.cells #[v, .int .i64 now, .int .i64 (ord + 1)] 52 (0, 0)) ∧ wd.heap[x5]? = some (.cells #[.int .i64 a.k, .int .i64 a.nd, .int .i64 a.n, .bool a.up, .string a.s] 28 (0, 0)) ∧ wd.ownsRow B 57 7 v l.length (ents l) ∧ some s ≠ v.ownBlock ∧ B ≤ wd.heap.size) := ⟨hwd ▸ HS0.out⟩
  have HCW : Aside0 (Ch (fun k => k = s) w0 wd) := ⟨hwd ▸ HCW0.drew⟩
  clear HS0 HCW0 hx5
  refine St.steadyW (n := 20) (by kernel_rfl) ([] :: [(0, 24)] :: [(1, 25)] :: [(2, 26)] :: [] :: [(4, 28)] :: [(5, 29)] :: [(6, 30)] :: [] :: [(8, 32)] :: [(7, 31), (9, 33)] :: [(10, 34)] :: [] :: [(12, 36)] :: [(13, 37)] :: [(14, 38)] :: [] :: [(11, 35), (15, 39), (16, 40)] :: [(17, 41)] :: [(3, 27), (18, 42)] :: []) (some 24 :: some 25 :: some 26 :: some 27 :: some 28 :: some 29 :: some 30 :: some 31 :: some 32 :: some 33 :: some 34 :: some 35 :: some 36 :: some 37 :: some 38 :: some 39 :: some 40 :: some 41 :: some 42 :: some 43 :: []) (by kernel_rfl) 19 (0 :: 0 :: 0 :: 0 :: 0 :: 0 :: 0 :: 0 :: 0 :: 0 :: 0 :: 0 :: 0 :: 0 :: 0 :: 0 :: 0 :: 0 :: 0 :: 1 :: []) (by kernel_rfl) rfl (by decide) ((St.eqT ?c4_0x4) :: (St.eqT ?c4_1x4) :: (St.eqT ?c4_2x4) :: (St.eqT ?c4_3x4) :: (St.eqT ?c4_4x4) :: (St.eqT ?c4_5x4) :: (St.eqT ?c4_6x4) :: (St.eqT ?c4_7x4) :: (St.eqT ?c4_8x4) :: (St.eqT ?c4_9x4) :: (St.eqT ?c4_10x4) :: (St.eqT (.int .i64 tm)) :: (St.eqT ?c4_12x4) :: (St.eqT ?c4_13x4) :: (St.eqT ?c4_14x4) :: (St.eqT ?c4_15x4) :: (St.eqT ?c4_16x4) :: (St.eqT ?c4_17x4) :: (St.eqT ?c4_18x4) :: (St.eqT (.tuple #[])) :: []) rfl (by rfl) (fun w' => w' = wd) (fun w w' => w = w') (fun w w' => HPushPost B s v (.int .i64 now) (.int .i64 (ord + 1)) 52 l ⟨tm, ord + 1, a⟩ w w') (fun w' => HPushPost B s v (.int .i64 now) (.int .i64 (ord + 1)) 52 l ⟨tm, ord + 1, a⟩ wd w') (fun w w' => w = w') ?hst ?h0 ?hB ?hC ?hop ?hend
  case hop =>
    refine ⟨?_, ?_, ?_, ?_, ?_, ?_, ?_, ?_, ?_, ?_, ?_, ?_, ?_, ?_, ?_, ?_, ?_, ?_, ?_, ?_, trivial⟩
    · intro w hB
      simp only [St.withD]
      refine St.ob_value (v := ?_) (w' := w) (by rfl) ?_ ⟨rfl, ?_⟩
      rotate_left
      · go_simp
        with_reducible rfl
      · rfl
    · intro w hB; rintro _ ⟨_, rfl⟩
      simp only [St.withD, List.nil_append, List.cons_append, Act.put, List.setIfInBounds_toArray, List.set_cons_zero, List.set_cons_succ]
      refine St.ob_value (v := ?_) (w' := w) (by rfl) ?_ ⟨rfl, ?_⟩
      rotate_left
      · go_simp
        with_reducible rfl
      · rfl
    · intro w hB; rintro _ ⟨_, rfl⟩
      simp only [St.withD, List.nil_append, List.cons_append, Act.put, List.setIfInBounds_toArray, List.set_cons_zero, List.set_cons_succ]
      refine St.ob_value (v := ?_) (w' := w) (by rfl) ?_ ⟨rfl, ?_⟩
      rotate_left
      · go_simp
        with_reducible rfl
      · rfl
    · intro w hB; rintro _ ⟨_, rfl⟩
      simp only [St.withD, List.nil_append, List.cons_append, Act.put, List.setIfInBounds_toArray, List.set_cons_zero, List.set_cons_succ]
      refine St.ob_value (v := ?_) (w' := w) (by rfl) ?_ ⟨rfl, ?_⟩
      rotate_left
      · go_simp
        with_reducible rfl
      · rfl
    · intro w hB
      simp only [St.withD]
      refine St.ob_value (v := ?_) (w' := w) (by rfl) ?_ ⟨rfl, ?_⟩
      rotate_left
      · go_simp
        with_reducible rfl
      · rfl
    · intro w hB; rintro _ ⟨_, rfl⟩
      simp only [St.withD, List.nil_append, List.cons_append, Act.put, List.setIfInBounds_toArray, List.set_cons_zero, List.set_cons_succ]
      refine St.ob_value (v := ?_) (w' := w) (by rfl) ?_ ⟨rfl, ?_⟩
      rotate_left
      · go_simp
        with_reducible rfl
      · rfl
    · intro w hB; rintro _ ⟨_, rfl⟩
      simp only [St.withD, List.nil_append, List.cons_append, Act.put, List.setIfInBounds_toArray, List.set_cons_zero, List.set_cons_succ]
      refine St.ob_value (v := ?_) (w' := w) (by rfl) ?_ ⟨rfl, ?_⟩
      rotate_left
      · go_simp
        with_reducible rfl
      · rfl
    · intro w hB; rintro _ ⟨_, rfl⟩
      simp only [St.withD, List.nil_append, List.cons_append, Act.put, List.setIfInBounds_toArray, List.set_cons_zero, List.set_cons_succ]
      have hs := HS.out
      rw [← hB] at hs
      have c1 : w.cell? ⟨s, 1, none⟩ = some (.int .i64 now) := (blk_cell hs.1 1).trans rfl
      have c2 : w.cell? ⟨s, 2, none⟩ = some (.int .i64 (ord + 1)) := (blk_cell hs.1 2).trans rfl
      have a0 : w.cell? ⟨x5, 0, none⟩ = some (.int .i64 a.k) := (blk_cell hs.2.1 0).trans rfl
      have a1 : w.cell? ⟨x5, 1, none⟩ = some (.int .i64 a.nd) := (blk_cell hs.2.1 1).trans rfl
      have a2 : w.cell? ⟨x5, 2, none⟩ = some (.int .i64 a.n) := (blk_cell hs.2.1 2).trans rfl
      have a3 : w.cell? ⟨x5, 3, none⟩ = some (.bool a.up) := (blk_cell hs.2.1 3).trans rfl
      have a4 : w.cell? ⟨x5, 4, none⟩ = some (.string a.s) := (blk_cell hs.2.1 4).trans rfl
      refine St.ob_value (v := ?_) (w' := w) (by rfl) ?_ ⟨rfl, ?_⟩
      rotate_left
      · go_simp
        with_reducible rfl
      · rfl
    · intro w hB
      simp only [St.withD]
      refine St.ob_value (v := ?_) (w' := w) (by rfl) ?_ ⟨rfl, ?_⟩
      rotate_left
      · go_simp
        with_reducible rfl
      · rfl
    · intro w hB; rintro _ ⟨_, rfl⟩
      simp only [St.withD, List.nil_append, List.cons_append, Act.put, List.setIfInBounds_toArray, List.set_cons_zero, List.set_cons_succ]
      refine St.ob_call Try.func23 (by kernel_rfl) rfl #[.int .i64 after, .int .i64 0, .int .i64 1073741824] (by rfl) rfl (by (try simp only [List.map_toArray, List.map_cons, List.map_nil]); first | done | rfl | (simp only [List.length_drop, List.length_take]; rfl)) ?_
      refine (brought_any after 0 1073741824 w).mono ?_
      rintro e w1 ⟨rfl, rfl⟩
      refine ⟨_, rfl, rfl, ?_⟩
      rfl
    · intro w hB; rintro _ ⟨_, rfl⟩ _ ⟨_, rfl⟩
      simp only [St.withD, List.nil_append, List.cons_append, Act.put, List.setIfInBounds_toArray, List.set_cons_zero, List.set_cons_succ]
      refine St.ob_value (v := ?_) (w' := w) (by rfl) ?_ ⟨rfl, ?_⟩
      rotate_left
      · go_simp
        with_reducible rfl
      · rfl
    · intro w hB; rintro _ ⟨_, rfl⟩
      simp only [St.withD, List.nil_append, List.cons_append, Act.put, List.setIfInBounds_toArray, List.set_cons_zero, List.set_cons_succ]
      refine St.ob_value (v := .int .i64 tm) (w' := w) (by rfl) ?_ ⟨rfl, rfl⟩
      have hwa : IntKind.i64.wrap (now + brI after 0 1073741824) = now + brI after 0 1073741824 := by have := HBR.out; rw [IntKind.wrap_i64]; omega
      by_cases hm : now + brI after 0 1073741824 ≤ 1099511627776
      · have e : tm = now + brI after 0 1073741824 := by rw [← HTM.out]; unfold putT; omega
        have hm2 : ¬ 1099511627776 < now + brI after 0 1073741824 := by omega
        rw [e]
        clear hB
        go_simp
        try omega
      · have e : tm = 1099511627776 := by rw [← HTM.out]; unfold putT; omega
        have hm2 : 1099511627776 < now + brI after 0 1073741824 := by omega
        rw [e]
        clear hB
        go_simp
        try omega
    · intro w hB
      simp only [St.withD]
      refine St.ob_value (v := ?_) (w' := w) (by rfl) ?_ ⟨rfl, ?_⟩
      rotate_left
      · go_simp
        with_reducible rfl
      · rfl
    · intro w hB; rintro _ ⟨_, rfl⟩
      simp only [St.withD, List.nil_append, List.cons_append, Act.put, List.setIfInBounds_toArray, List.set_cons_zero, List.set_cons_succ]
      refine St.ob_value (v := ?_) (w' := w) (by rfl) ?_ ⟨rfl, ?_⟩
      rotate_left
      · go_simp
        with_reducible rfl
      · rfl
    · intro w hB; rintro _ ⟨_, rfl⟩
      simp only [St.withD, List.nil_append, List.cons_append, Act.put, List.setIfInBounds_toArray, List.set_cons_zero, List.set_cons_succ]
      refine St.ob_value (v := ?_) (w' := w) (by rfl) ?_ ⟨rfl, ?_⟩
      rotate_left
      · go_simp
        with_reducible rfl
      · rfl
    · intro w hB; rintro _ ⟨_, rfl⟩
      simp only [St.withD, List.nil_append, List.cons_append, Act.put, List.setIfInBounds_toArray, List.set_cons_zero, List.set_cons_succ]
      have hs := HS.out
      rw [← hB] at hs
      have c1 : w.cell? ⟨s, 1, none⟩ = some (.int .i64 now) := (blk_cell hs.1 1).trans rfl
      have c2 : w.cell? ⟨s, 2, none⟩ = some (.int .i64 (ord + 1)) := (blk_cell hs.1 2).trans rfl
      have a0 : w.cell? ⟨x5, 0, none⟩ = some (.int .i64 a.k) := (blk_cell hs.2.1 0).trans rfl
      have a1 : w.cell? ⟨x5, 1, none⟩ = some (.int .i64 a.nd) := (blk_cell hs.2.1 1).trans rfl
      have a2 : w.cell? ⟨x5, 2, none⟩ = some (.int .i64 a.n) := (blk_cell hs.2.1 2).trans rfl
      have a3 : w.cell? ⟨x5, 3, none⟩ = some (.bool a.up) := (blk_cell hs.2.1 3).trans rfl
      have a4 : w.cell? ⟨x5, 4, none⟩ = some (.string a.s) := (blk_cell hs.2.1 4).trans rfl
      refine St.ob_value (v := ?_) (w' := w) (by rfl) ?_ ⟨rfl, ?_⟩
      rotate_left
      · go_simp
        with_reducible rfl
      · rfl
    · intro w hB
      simp only [St.withD]
      have hs := HS.out
      rw [← hB] at hs
      have c1 : w.cell? ⟨s, 1, none⟩ = some (.int .i64 now) := (blk_cell hs.1 1).trans rfl
      have c2 : w.cell? ⟨s, 2, none⟩ = some (.int .i64 (ord + 1)) := (blk_cell hs.1 2).trans rfl
      have a0 : w.cell? ⟨x5, 0, none⟩ = some (.int .i64 a.k) := (blk_cell hs.2.1 0).trans rfl
      have a1 : w.cell? ⟨x5, 1, none⟩ = some (.int .i64 a.nd) := (blk_cell hs.2.1 1).trans rfl
      have a2 : w.cell? ⟨x5, 2, none⟩ = some (.int .i64 a.n) := (blk_cell hs.2.1 2).trans rfl
      have a3 : w.cell? ⟨x5, 3, none⟩ = some (.bool a.up) := (blk_cell hs.2.1 3).trans rfl
      have a4 : w.cell? ⟨x5, 4, none⟩ = some (.string a.s) := (blk_cell hs.2.1 4).trans rfl
      refine St.ob_value (v := ?_) (w' := w) (by rfl) ?_ ⟨rfl, ?_⟩
      rotate_left
      · go_simp
        with_reducible rfl
      · rfl
    · intro w hB; rintro _ ⟨_, rfl⟩ _ ⟨_, rfl⟩ _ ⟨_, rfl⟩
      simp only [St.withD, List.nil_append, List.cons_append, Act.put, List.setIfInBounds_toArray, List.set_cons_zero, List.set_cons_succ]
      refine St.ob_value (v := ?_) (w' := w) (by rfl) ?_ ⟨rfl, ?_⟩
      rotate_left
      · go_simp
        with_reducible rfl
      · rfl
    · intro w hB; rintro _ ⟨_, rfl⟩
      simp only [St.withD, List.nil_append, List.cons_append, Act.put, List.setIfInBounds_toArray, List.set_cons_zero, List.set_cons_succ]
      refine St.ob_value (v := ?_) (w' := w) (by rfl) ?_ ⟨rfl, ?_⟩
      rotate_left
      · go_simp
        with_reducible rfl
      · rfl
    · intro w hB; rintro _ ⟨_, rfl⟩ _ ⟨_, rfl⟩
      simp only [St.withD, List.nil_append, List.cons_append, Act.put, List.setIfInBounds_toArray, List.set_cons_zero, List.set_cons_succ]
      have hs := HS.out
      rw [← hB] at hs
      refine St.ob_call Try.func22 (by kernel_rfl) rfl #[PI s, .iface 57 (.agg (enc ⟨tm, ord + 1, a⟩).toArray)] (by rfl) rfl (by (try simp only [List.map_toArray, List.map_cons, List.map_nil]); first | done | rfl | (simp only [List.length_drop, List.length_take]; rfl)) ?_
      refine (hpush_any B s v (.int .i64 now) (.int .i64 (ord + 1)) 52 l ⟨tm, ord + 1, a⟩ w hs.1 hs.2.2.1 hs.2.2.2.1 hs.2.2.2.2 (by omega)).mono ?_
      rintro e w1 ⟨rfl, hp⟩
      refine ⟨_, rfl, ⟨hp, by rw [← hB]; exact hp⟩, ?_⟩
      rfl
  case hst => exact ⟨St.eqT_st, St.eqT_st, St.eqT_st, St.eqT_st, St.eqT_st, St.eqT_st, St.eqT_st, St.eqT_st, St.eqT_st, St.eqT_st, St.eqT_st, St.eqT_st, St.eqT_st, St.eqT_st, St.eqT_st, St.eqT_st, St.eqT_st, St.eqT_st, St.eqT_st, St.eqT_st, trivial⟩
  case h0 => exact hwd
  case hB => exact fun w w' h e => e ▸ h
  case hC => (intro w w' h e; subst e; exact h)
  case hend =>
    intro w hB
    rintro _ rfl _ rfl _ rfl _ rfl _ rfl _ rfl _ rfl _ rfl _ rfl _ rfl _ rfl _ rfl _ rfl _ rfl _ rfl _ rfl _ rfl _ rfl _ rfl _ rfl
    simp only [List.map_cons, List.map_nil, List.nil_append, List.cons_append, List.getD_cons_zero, List.getD_cons_succ, Act.put, List.setIfInBounds_toArray, List.set_cons_zero, List.set_cons_succ]
    rw [St.withE_nil]
    have HP := Aside0.mk hB
    clear hB
    go_wp2
    go_ret
    obtain ⟨hc, g1, c1, y1, y2, y3, y4⟩ := HP.out
    have hsz : w0.heap.size ≤ wd.heap.size := HCW.out.size
    unfold PutPost
    rw [HTM.out]
    refine ⟨.slice (some ⟨g1, 0, none⟩) (l.length + 1) c1, rfl, ⟨y1, ?_, fun e => y3 (by cases e; rfl), HLO.out⟩, ?_, fun k e => ?_⟩
    · have hpl := HPL.out
      unfold HR at y2
      rw [hpl] at y2
      rw [hpl]
      exact y2
    · exact (HCW.out.mono fun i _ e => .inl e).trans (hc.mono fun i _ e => e)
    · cases e
      rcases y4 with e | e
      · exact .inl e.symm
      · exact .inr (Nat.le_trans hsz e)
end
end Go.Proofs.Ytfijbhacobjjgag
