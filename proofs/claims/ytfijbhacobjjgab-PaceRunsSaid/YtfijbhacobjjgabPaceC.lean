/- The contracts of the document's Bring, New, Tick; of Wait and Some. -/
import Derived.Test.YtfijbhacobjjgabPaceB
namespace Go.Proofs.Ytfijbhacobjjgab
open Go.RowKit Go.Proofs.YtfijbhacobjjgabW.PrintWords Go.Proofs.YtfijbhacobjjgabW.PrintLast Go.Proofs.YtfijbhacobjjgabW.PrintMore Go.Proofs.Ytfijbhacobjjgab.Fr
set_option linter.unusedVariables false
set_option linter.unusedSimpArgs false

attribute [local go_sem] max2_int min2_int max_two min_two
def bringR (n lo hi : Int) : Int := if n < lo then lo else if hi < n then hi else n
theorem bringR_any (n lo hi : Int) (w : World) : Calls Try.prog 12 #[.int .i64 n, .int .i64 lo, .int .i64 hi] w fun e w' => e = .returned (.int .i64 (bringR n lo hi)) ∧ w = w' := by
  by_cases h1 : n < lo
  · have E : Aside0 (bringR n lo hi = lo) := ⟨by unfold bringR; rw [if_pos h1]⟩
    go_enter Try.func12, Try.ntmps12
    go_wp2
    go_ret
    rw [E.out]
    exact ⟨rfl, rfl⟩
  · by_cases h2 : hi < n
    · have E : Aside0 (bringR n lo hi = hi) := ⟨by unfold bringR; rw [if_neg h1, if_pos h2]⟩
      go_enter Try.func12, Try.ntmps12
      go_wp2
      go_ret
      rw [E.out]
      exact ⟨rfl, rfl⟩
    · have E : Aside0 (bringR n lo hi = n) := ⟨by unfold bringR; rw [if_neg h1, if_neg h2]⟩
      go_enter Try.func12, Try.ntmps12
      go_wp2
      go_ret
      rw [E.out]
      exact ⟨rfl, rfl⟩
def waitV (r b h n : Int) : Int × Bool := if b < n then (0, false) else if n ≤ h then (0, true) else if r = 0 then (0, false) else ((n - h + r - 1) / r, true)
theorem wait_none (n : Int) (w : World) : Calls Try.prog 16 #[.pointer none, .int .i64 n] w fun e w' => e = .returned (.tuple #[.int .i64 0, .bool false]) ∧ w = w' := by
  go_enter Try.func16, Try.ntmps16
  go_wp2
  go_ret2
  exact ⟨rfl, rfl⟩
theorem wait_any (g : Nat) (r b h n : Int) (w : World) (hb : BucketAt w g r b h) (hr0 : 0 ≤ r) (hr1 : r ≤ 1048576) (hh0 : 0 ≤ h) (hh1 : h ≤ b) (hb1 : b ≤ 1048576) :
    Calls Try.prog 16 #[.pointer (some ⟨g, 0, none⟩), .int .i64 n] w fun e w' => e = .returned (.tuple #[.int .i64 (waitV r b h n).1, .bool (waitV r b h n).2]) ∧ Drawn0 w w' := by
  have c0 : w.cell? ⟨g, 0, none⟩ = some (.int .i64 r) := (blk_cell hb 0).trans rfl
  have c1 : w.cell? ⟨g, 1, none⟩ = some (.int .i64 b) := (blk_cell hb 1).trans rfl
  have c2 : w.cell? ⟨g, 2, none⟩ = some (.int .i64 h) := (blk_cell hb 2).trans rfl
  clear hb
  have HD := Aside0.mk (Drawn0.refl w)
  by_cases h1 : b < n
  · have E : Aside0 (waitV r b h n = (0, false)) := ⟨by unfold waitV; rw [if_pos h1]⟩
    go_enter Try.func16, Try.ntmps16
    go_wp2
    go_ret2
    rw [E.out]
    exact ⟨rfl, HD.out⟩
  · by_cases h2 : n ≤ h
    · have E : Aside0 (waitV r b h n = (0, true)) := ⟨by unfold waitV; rw [if_neg h1, if_pos h2]⟩
      go_enter Try.func16, Try.ntmps16
      go_wp2
      go_ret2
      rw [E.out]
      exact ⟨rfl, HD.out⟩
    · by_cases h3 : r = 0
      · have E : Aside0 (waitV r b h n = (0, false)) := ⟨by unfold waitV; rw [if_neg h1, if_neg h2, if_pos h3]⟩
        subst h3
        go_enter Try.func16, Try.ntmps16
        go_wp2
        go_ret2
        rw [E.out]
        exact ⟨rfl, HD.out⟩
      · have E : Aside0 (waitV r b h n = ((n - h + r - 1) / r, true)) := ⟨by unfold waitV; rw [if_neg h1, if_neg h2, if_neg h3]⟩
        have h4 : 0 < r := by omega
        have h5 : h < n := by omega
        have h6 : n ≤ b := by omega
        have h7 : ((r : Int) == 0) = false := by simp; omega
        clear h1 h2 h3
        go_enter Try.func16, Try.ntmps16
        go_wp2
        go_region
        go_wp2
        go_ret2
        rw [E.out]
        exact ⟨rfl, Drawn0.step HD.out 1⟩
theorem some_none (n : Int) (w : World) : Calls Try.prog 13 #[.pointer none, .int .i64 n] w fun e w' => e = .returned (.int .i64 (bring n 0 0)) ∧ w = w' := by
  go_enter Try.func13, Try.ntmps13
  go_wp2_with fail
  refine (has_none _).mono ?_
  rintro e w1 ⟨rfl, rfl⟩
  go_wp2_with fail
  refine (brought_any n 0 0 _).mono ?_
  rintro e w1 ⟨rfl, rfl⟩
  go_wp2_with fail
  refine (take_none _ _).mono ?_
  rintro e w1 ⟨rfl, rfl⟩
  go_wp2
  go_ret
  exact ⟨rfl, rfl⟩
theorem some_any (g : Nat) (r b h n k : Int) (hk : bring n 0 h = k) (w : World) (hb : BucketAt w g r b h) (hh0 : 0 ≤ h) (hh1 : h ≤ 1048576) :
    Calls Try.prog 13 #[.pointer (some ⟨g, 0, none⟩), .int .i64 n] w fun e w' => e = .returned (.int .i64 k) ∧ BucketAt w' g r b (h - k) ∧ Ch (fun i => i = g) w w' := by
  have hk0 : 0 ≤ k ∧ k ≤ h := by rw [← hk]; unfold bring mn mx; constructor <;> (repeat' split) <;> omega
  have HBR : Aside0 (∀ w, Calls Try.prog 18 #[.int .i64 n, .int .i64 0, .int .i64 h] w fun e w' => e = .returned (.int .i64 k) ∧ w = w') := ⟨fun w => hk ▸ brought_any n 0 h w⟩
  have HB := Aside0.mk hb
  clear hb hk
  obtain ⟨hk1, hk2⟩ := hk0
  go_enter Try.func13, Try.ntmps13
  go_wp2_with fail
  refine (has_any g r b h _ HB.out).mono ?_
  rintro e w1 ⟨rfl, rfl⟩
  go_wp2_with fail
  refine (HBR.out _).mono ?_
  rintro e w1 ⟨rfl, rfl⟩
  go_wp2_with fail
  refine (take_yes g r b h k _ HB.out hk1 hk2 hh1).mono ?_
  rintro e w1 ⟨rfl, hb, hc⟩
  have HK := Aside0.mk (And.intro hb hc)
  clear hb hc
  go_wp2
  go_ret
  exact ⟨rfl, HK.out.1, HK.out.2⟩
theorem newR_any (r b : Int) (w : World) : Calls Try.prog 10 #[.int .i64 r, .int .i64 b] w fun e w' => e = .returned (.agg #[.int .i64 (bringR r 0 1048576), .int .i64 (bringR b 1 1048576), .int .i64 (bringR b 1 1048576)]) ∧ Below w.heap.size w w' := by
  obtain ⟨x, hx⟩ : ∃ x, bringR r 0 1048576 = x := ⟨_, rfl⟩
  obtain ⟨y, hy⟩ : ∃ y, bringR b 1 1048576 = y := ⟨_, rfl⟩
  have HX : Aside0 (∀ w, Calls Try.prog 12 #[.int .i64 r, .int .i64 0, .int .i64 1048576] w fun e w' => e = .returned (.int .i64 x) ∧ w = w') := ⟨fun w => hx ▸ bringR_any r 0 1048576 w⟩
  have HY : Aside0 (∀ w, Calls Try.prog 12 #[.int .i64 b, .int .i64 1, .int .i64 1048576] w fun e w' => e = .returned (.int .i64 y) ∧ w = w') := ⟨fun w => hy ▸ bringR_any b 1 1048576 w⟩
  rw [hx, hy]
  clear hx hy
  go_enter Try.func10, Try.ntmps10
  go_wp2_with fail
  refine (HY.out _).mono ?_
  rintro e w1 ⟨rfl, rfl⟩
  go_wp2_with fail
  refine (HX.out _).mono ?_
  rintro e w1 ⟨rfl, rfl⟩
  go_wp2
  exact bodyPost_ret (v := .agg #[.int .i64 x, .int .i64 y, .int .i64 y]) (by simp [results, Try.results10, go_sem]) rfl ⟨rfl, below_alloc (Below.refl _ _) _⟩
set_option maxHeartbeats 1000000 in
theorem tickR_any (r b h n y z : Int) (hy : bringR n 0 1048576 = y) (hz : bringR (h + r * y) 0 b = z) (w0 : World) (hr0 : 0 ≤ r) (hr1 : r ≤ 1048576) (hh0 : 0 ≤ h) (hh1 : h ≤ 1048576) :
    Calls Try.prog 14 #[.agg #[.int .i64 r, .int .i64 b, .int .i64 h], .int .i64 n] w0 fun e w' => e = .returned (.agg #[.int .i64 r, .int .i64 b, .int .i64 z]) ∧ Below w0.heap.size w0 w' := by
  have hy0 : 0 ≤ y ∧ y ≤ 1048576 := by rw [← hy]; unfold bringR; constructor <;> (repeat' split) <;> omega
  have hp0 : 0 ≤ r * y := Int.mul_nonneg hr0 hy0.1
  have hp1 : r * y ≤ 1099511627776 := by
    have h1 : r * y ≤ 1048576 * y := Int.mul_le_mul_of_nonneg_right hr1 hy0.1
    have := hy0.2
    omega
  have HBR : Aside0 (∀ w, Calls Try.prog 12 #[.int .i64 n, .int .i64 0, .int .i64 1048576] w fun e w' => e = .returned (.int .i64 y) ∧ w = w') := ⟨fun w => hy ▸ bringR_any n 0 1048576 w⟩
  have HBS : Aside0 (∀ w, Calls Try.prog 12 #[.int .i64 (h + r * y), .int .i64 0, .int .i64 b] w fun e w' => e = .returned (.int .i64 z) ∧ w = w') := ⟨fun w => hz ▸ bringR_any (h + r * y) 0 b w⟩
  clear hy hz hy0
  go_enter Try.func14, Try.ntmps14
  go_wp2
  have HX : Aside0 (((w0.alloc (.cells #[.int .i64 r, .int .i64 b, .int .i64 h] 30)).alloc (.cells #[.int .i64 0, .int .i64 0, .int .i64 0] 30)).heap[w0.heap.size]? = some (.cells #[.int .i64 r, .int .i64 b, .int .i64 h] 30 (0, 0))) := ⟨blk_below (blk_new w0 _) (below_alloc (Below.refl _ _) _)⟩
  have HY : Aside0 (((w0.alloc (.cells #[.int .i64 r, .int .i64 b, .int .i64 h] 30)).alloc (.cells #[.int .i64 0, .int .i64 0, .int .i64 0] 30)).heap[w0.heap.size + 1]? = some (.cells #[.int .i64 0, .int .i64 0, .int .i64 0] 30 (0, 0))) := ⟨by have := blk_new (w0.alloc (.cells #[.int .i64 r, .int .i64 b, .int .i64 h] 30)) (.cells #[.int .i64 0, .int .i64 0, .int .i64 0] 30); simpa using this⟩
  have HBE : Aside0 (Below w0.heap.size w0 ((w0.alloc (.cells #[.int .i64 r, .int .i64 b, .int .i64 h] 30)).alloc (.cells #[.int .i64 0, .int .i64 0, .int .i64 0] 30)) ∧ w0.heap.size ≤ ((w0.alloc (.cells #[.int .i64 r, .int .i64 b, .int .i64 h] 30)).alloc (.cells #[.int .i64 0, .int .i64 0, .int .i64 0] 30)).heap.size ∧ w0.heap.size ≤ w0.heap.size) := ⟨below_alloc (below_alloc (Below.refl _ _) _) _, by simp; omega, Nat.le_refl _⟩
  generalize (w0.alloc (.cells #[.int .i64 r, .int .i64 b, .int .i64 h] 30)).alloc (.cells #[.int .i64 0, .int .i64 0, .int .i64 0] 30) = w1 at HX HY HBE ⊢
  obtain ⟨g, HG⟩ : ∃ g, Aside0 (w0.heap.size = g) := ⟨_, ⟨rfl⟩⟩
  have HNE : Aside0 (g + 1 ≠ g) := ⟨by omega⟩
  have HBE2 : Aside0 (Below w0.heap.size w0 w1 ∧ w0.heap.size ≤ w1.heap.size ∧ w0.heap.size ≤ g) := ⟨by rw [← HG.out]; exact HBE.out⟩
  have HG2 : Aside0 (w0.heap.size ≤ g + 1) := ⟨by have := HG.out; omega⟩
  rw [HG.out] at HX HY
  rw [HG.out]
  clear HBE HG
  obtain ⟨g2, HG⟩ : ∃ g2, Aside0 (g + 1 = g2) := ⟨_, ⟨rfl⟩⟩
  rw [HG.out] at HY HNE HG2
  rw [HG.out]
  clear HG
  refine St.steadyW (n := 13) (by kernel_rfl) ([] :: [(0, 5)] :: [] :: [(2, 7)] :: [] :: [(4, 9)] :: [(3, 8), (5, 10)] :: [(1, 6), (6, 11)] :: [] :: [(8, 13)] :: [(7, 12), (9, 14)] :: [] :: [(10, 15), (11, 16)] :: []) (some 5 :: some 6 :: some 7 :: some 8 :: some 9 :: some 10 :: some 11 :: some 12 :: some 13 :: some 14 :: some 15 :: some 16 :: none :: []) (by kernel_rfl) 12 (0 :: 0 :: 0 :: 0 :: 0 :: 0 :: 0 :: 0 :: 0 :: 0 :: 0 :: 0 :: 1 :: []) (by kernel_rfl) rfl (by decide) ((St.eqT ?c1_0x2) :: (St.eqT ?c1_1x2) :: (St.eqT ?c1_2x2) :: (St.eqT ?c1_3x2) :: (St.eqT ?c1_4x2) :: (St.eqT ?c1_5x2) :: (St.eqT ?c1_6x2) :: (St.eqT ?c1_7x2) :: (St.eqT ?c1_8x2) :: (St.eqT ?c1_9x2) :: (St.eqT ?c1_10x2) :: (St.eqT ?c1_11x2) :: (St.eqT undef) :: []) rfl (by rfl) (fun w' => Drawn0 w1 w') (fun w w' => w = w') (fun _ _ => True) (fun w' => ∃ nq, w' = (w1.drewN nq).setCell ⟨g, 2, none⟩ (.int .i64 z)) (fun w w' => w = w') ?hst ?h0 ?hB ?hC ?hop ?hend
  case hop =>
    refine ⟨?_, ?_, ?_, ?_, ?_, ?_, ?_, ?_, ?_, ?_, ?_, ?_, ?_, trivial⟩
    · intro w hB
      simp only [St.withD]
      refine St.ob_value (v := ?_) (w' := w) (by rfl) ?_ ⟨rfl, ?_⟩
      rotate_left
      · go_simp
        with_reducible rfl
      · rfl
    · intro w hB; rintro _ ⟨_, rfl⟩
      simp only [St.withD, List.nil_append, List.cons_append, Act.put, List.setIfInBounds_toArray, List.set_cons_zero, List.set_cons_succ]
      have HW : w.heap[g]? = some (.cells #[.int .i64 r, .int .i64 b, .int .i64 h] 30 (0, 0)) := by obtain ⟨⟨nq, rfl⟩⟩ := hB; exact HX.out
      have c0 : w.cell? ⟨g, 0, none⟩ = some (.int .i64 r) := (blk_cell HW 0).trans rfl
      have c1 : w.cell? ⟨g, 1, none⟩ = some (.int .i64 b) := (blk_cell HW 1).trans rfl
      have c2 : w.cell? ⟨g, 2, none⟩ = some (.int .i64 h) := (blk_cell HW 2).trans rfl
      clear HW
      refine St.ob_value (v := ?_) (w' := w) (by rfl) ?_ ⟨rfl, ?_⟩
      rotate_left
      · go_simp
        with_reducible rfl
      · rfl
    · intro w hB
      simp only [St.withD]
      refine St.ob_value (v := ?_) (w' := w) (by rfl) ?_ ⟨rfl, ?_⟩
      rotate_left
      · go_simp
        with_reducible rfl
      · rfl
    · intro w hB; rintro _ ⟨_, rfl⟩
      simp only [St.withD, List.nil_append, List.cons_append, Act.put, List.setIfInBounds_toArray, List.set_cons_zero, List.set_cons_succ]
      have HW : w.heap[g]? = some (.cells #[.int .i64 r, .int .i64 b, .int .i64 h] 30 (0, 0)) := by obtain ⟨⟨nq, rfl⟩⟩ := hB; exact HX.out
      have c0 : w.cell? ⟨g, 0, none⟩ = some (.int .i64 r) := (blk_cell HW 0).trans rfl
      have c1 : w.cell? ⟨g, 1, none⟩ = some (.int .i64 b) := (blk_cell HW 1).trans rfl
      have c2 : w.cell? ⟨g, 2, none⟩ = some (.int .i64 h) := (blk_cell HW 2).trans rfl
      clear HW
      refine St.ob_value (v := ?_) (w' := w) (by rfl) ?_ ⟨rfl, ?_⟩
      rotate_left
      · go_simp
        with_reducible rfl
      · rfl
    · intro w hB
      simp only [St.withD]
      refine St.ob_value (v := ?_) (w' := w) (by rfl) ?_ ⟨rfl, ?_⟩
      rotate_left
      · go_simp
        with_reducible rfl
      · rfl
    · intro w hB; rintro _ ⟨_, rfl⟩
      simp only [St.withD, List.nil_append, List.cons_append, Act.put, List.setIfInBounds_toArray, List.set_cons_zero, List.set_cons_succ]
      refine St.ob_call Try.func12 (by kernel_rfl) rfl #[.int .i64 n, .int .i64 0, .int .i64 1048576] (by rfl) rfl (by (try simp only [List.map_toArray, List.map_cons, List.map_nil]); first | done | rfl | (simp only [List.length_drop, List.length_take]; rfl)) ?_
      refine (HBR.out w).mono ?_
      rintro e w2 ⟨rfl, rfl⟩
      refine ⟨_, rfl, rfl, ?_⟩
      rfl
    · intro w hB; rintro _ ⟨_, rfl⟩ _ ⟨_, rfl⟩
      simp only [St.withD, List.nil_append, List.cons_append, Act.put, List.setIfInBounds_toArray, List.set_cons_zero, List.set_cons_succ]
      refine St.ob_value (v := .int .i64 (r * y)) (w' := w) (by rfl) ?_ ⟨rfl, ?_⟩
      · have hw1 : IntKind.i64.wrap (r * y) = r * y := by rw [IntKind.wrap_i64]; omega
        go_simp
        try rw [hw1]
      · rfl
    · intro w hB; rintro _ ⟨_, rfl⟩ _ ⟨_, rfl⟩
      simp only [St.withD, List.nil_append, List.cons_append, Act.put, List.setIfInBounds_toArray, List.set_cons_zero, List.set_cons_succ]
      refine St.ob_value (v := .int .i64 (h + r * y)) (w' := w) (by rfl) ?_ ⟨rfl, ?_⟩
      · have hw1 : IntKind.i64.wrap (h + r * y) = h + r * y := by rw [IntKind.wrap_i64]; omega
        go_simp
        try rw [hw1]
      · rfl
    · intro w hB
      simp only [St.withD]
      refine St.ob_value (v := ?_) (w' := w) (by rfl) ?_ ⟨rfl, ?_⟩
      rotate_left
      · go_simp
        with_reducible rfl
      · rfl
    · intro w hB; rintro _ ⟨_, rfl⟩
      simp only [St.withD, List.nil_append, List.cons_append, Act.put, List.setIfInBounds_toArray, List.set_cons_zero, List.set_cons_succ]
      have HW : w.heap[g]? = some (.cells #[.int .i64 r, .int .i64 b, .int .i64 h] 30 (0, 0)) := by obtain ⟨⟨nq, rfl⟩⟩ := hB; exact HX.out
      have c0 : w.cell? ⟨g, 0, none⟩ = some (.int .i64 r) := (blk_cell HW 0).trans rfl
      have c1 : w.cell? ⟨g, 1, none⟩ = some (.int .i64 b) := (blk_cell HW 1).trans rfl
      have c2 : w.cell? ⟨g, 2, none⟩ = some (.int .i64 h) := (blk_cell HW 2).trans rfl
      clear HW
      refine St.ob_value (v := ?_) (w' := w) (by rfl) ?_ ⟨rfl, ?_⟩
      rotate_left
      · go_simp
        with_reducible rfl
      · rfl
    · intro w hB; rintro _ ⟨_, rfl⟩ _ ⟨_, rfl⟩
      simp only [St.withD, List.nil_append, List.cons_append, Act.put, List.setIfInBounds_toArray, List.set_cons_zero, List.set_cons_succ]
      refine St.ob_call Try.func12 (by kernel_rfl) rfl #[.int .i64 (h + r * y), .int .i64 0, .int .i64 b] (by rfl) rfl (by (try simp only [List.map_toArray, List.map_cons, List.map_nil]); first | done | rfl | (simp only [List.length_drop, List.length_take]; rfl)) ?_
      refine (HBS.out w).mono ?_
      rintro e w2 ⟨rfl, rfl⟩
      refine ⟨_, rfl, rfl, ?_⟩
      rfl
    · intro w hB
      simp only [St.withD]
      refine St.ob_value (v := ?_) (w' := w) (by rfl) ?_ ⟨rfl, ?_⟩
      rotate_left
      · go_simp
        with_reducible rfl
      · rfl
    · intro w hB; rintro _ ⟨_, rfl⟩ _ ⟨_, rfl⟩
      simp only [St.withD, List.nil_append, List.cons_append, Act.put, List.setIfInBounds_toArray, List.set_cons_zero, List.set_cons_succ]
      obtain ⟨⟨nq, rfl⟩⟩ := hB
      have f2 : (w1.drewN nq).frozen? ⟨g, 2, none⟩ = false := blk_frozen (w := w1.drewN nq) HX.out 2
      refine St.ob_skip (w' := (w1.drewN nq).setCell ⟨g, 2, none⟩ (.int .i64 z)) (by rfl) ?_ ⟨⟨trivial, nq, rfl⟩, rfl⟩
      have c2 : w1.cell? ⟨g, 2, none⟩ = some (.int .i64 h) := (blk_cell HX.out 2).trans rfl
      go_simp
      try rfl
  case hst => exact ⟨St.eqT_st, St.eqT_st, St.eqT_st, St.eqT_st, St.eqT_st, St.eqT_st, St.eqT_st, St.eqT_st, St.eqT_st, St.eqT_st, St.eqT_st, St.eqT_st, St.eqT_st, trivial⟩
  case h0 => exact Drawn0.step (Drawn0.refl _) 1
  case hB => exact fun w w' h e => e ▸ h
  case hC => (intro w w' h e; subst e; exact h)
  case hend =>
    intro w hB
    rintro _ rfl _ rfl _ rfl _ rfl _ rfl _ rfl _ rfl _ rfl _ rfl _ rfl _ rfl _ rfl _ rfl
    simp only [List.map_cons, List.map_nil, List.nil_append, List.cons_append, List.getD_cons_zero, List.getD_cons_succ, Act.put, List.setIfInBounds_toArray, List.set_cons_zero, List.set_cons_succ]
    rw [St.withE_nil]
    obtain ⟨nq, rfl⟩ := hB
    have HK : Aside0 (((w1.drewN nq).setCell ⟨g, 2, none⟩ (.int .i64 z)).heap[g]? = some (.cells #[.int .i64 r, .int .i64 b, .int .i64 z] 30 (0, 0))) := ⟨blk_put (w := w1.drewN nq) HX.out 2 _ rfl⟩
    have HG : Aside0 (((w1.drewN nq).setCell ⟨g, 2, none⟩ (.int .i64 z)).heap[g2]? = some (.cells #[.int .i64 0, .int .i64 0, .int .i64 0] 30 (0, 0))) := ⟨blk_far (w := w1.drewN nq) HY.out HNE.out _⟩
    have HC : Aside0 (Below w0.heap.size w0 ((w1.drewN nq).setCell ⟨g, 2, none⟩ (.int .i64 z))) := ⟨Ch.onto (S := fun j => j = g) HBE2.out.1 (((Ch.refl _ _).drewN nq).set rfl) HBE2.out.2.1 (fun i e => e ▸ HBE2.out.2.2)⟩
    generalize (w1.drewN nq).setCell ⟨g, 2, none⟩ (.int .i64 z) = V at HK HG HC ⊢
    have k0 : V.cell? ⟨g, 0, none⟩ = some (.int .i64 r) := (blk_cell HK.out 0).trans rfl
    have k1 : V.cell? ⟨g, 1, none⟩ = some (.int .i64 b) := (blk_cell HK.out 1).trans rfl
    have k2 : V.cell? ⟨g, 2, none⟩ = some (.int .i64 z) := (blk_cell HK.out 2).trans rfl
    have l0 : V.cell? ⟨g2, 0, none⟩ = some (.int .i64 0) := (blk_cell HG.out 0).trans rfl
    have l1 : V.cell? ⟨g2, 1, none⟩ = some (.int .i64 0) := (blk_cell HG.out 1).trans rfl
    have l2 : V.cell? ⟨g2, 2, none⟩ = some (.int .i64 0) := (blk_cell HG.out 2).trans rfl
    have m0 := blk_frozen HG.out 0
    have m1 := blk_frozen HG.out 1
    have m2 := blk_frozen HG.out 2
    go_wp2
    have HG3 : (((V.setCell ⟨g2, 0, none⟩ (.int .i64 r)).setCell ⟨g2, 1, none⟩ (.int .i64 b)).setCell ⟨g2, 2, none⟩ (.int .i64 z)).heap[g2]? = some (.cells #[.int .i64 r, .int .i64 b, .int .i64 z] 30 (0, 0)) := blk_put (blk_put (blk_put HG.out 0 _ rfl) 1 _ rfl) 2 _ rfl
    have HC3 : Aside0 (Below w0.heap.size w0 (((V.setCell ⟨g2, 0, none⟩ (.int .i64 r)).setCell ⟨g2, 1, none⟩ (.int .i64 b)).setCell ⟨g2, 2, none⟩ (.int .i64 z))) := ⟨Ch.onto (S := fun j => j = g2) HC.out ((((Ch.refl (fun j => j = g2) _).set rfl).set rfl).set rfl) (HC.out.size) (fun i e => e ▸ HG2.out)⟩
    generalize ((V.setCell ⟨g2, 0, none⟩ (.int .i64 r)).setCell ⟨g2, 1, none⟩ (.int .i64 b)).setCell ⟨g2, 2, none⟩ (.int .i64 z) = V3 at HG3 HC3 ⊢
    have p0 : V3.cell? ⟨g2, 0, none⟩ = some (.int .i64 r) := (blk_cell HG3 0).trans rfl
    have p1 : V3.cell? ⟨g2, 1, none⟩ = some (.int .i64 b) := (blk_cell HG3 1).trans rfl
    have p2 : V3.cell? ⟨g2, 2, none⟩ = some (.int .i64 z) := (blk_cell HG3 2).trans rfl
    exact bodyPost_ret (v := .agg #[.int .i64 r, .int .i64 b, .int .i64 z]) (by simp [results, Try.results14, go_sem, p0, p1, p2]) rfl ⟨rfl, HC3.out⟩
end Go.Proofs.Ytfijbhacobjjgab
