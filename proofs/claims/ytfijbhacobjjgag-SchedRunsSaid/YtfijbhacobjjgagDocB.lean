/- The document's Next. -/
import Derived.Test.YtfijbhacobjjgagDocA
import Derived.Laws.ResultCell
namespace Go.Proofs.Ytfijbhacobjjgag
open Go.RowKit Go.Proofs.YtfijbhacobjjgagW.PrintWords Go.Proofs.YtfijbhacobjjgagW.PrintLast Go.Proofs.YtfijbhacobjjgagW.PrintMore Go.Proofs.Ytfijbhacobjjgag.Fr
set_option linter.unusedVariables false
set_option linter.unusedSimpArgs false
attribute [local go_sem] max2_int min2_int max_two min_two

open Pl Hp
theorem sizeA : (Try.prog.info? 28).map (·.size) = some 5 := by kernel_rfl
theorem size3 : (Try.prog.info? 3).map (·.size) = some 1 := by kernel_rfl
theorem cut_run (t e sz : Nat) (ht : Try.prog.underlying t = some (.slice e)) (hinfo : (Try.prog.info? e).map (·.size) = some sz) (p : Option (Nat × Nat)) (n c m : Nat) (hm : m ≤ n) (W : World) :
    (Instr.slice t (.slice (ap p) n c) (some (.int .i64 (m : Int))) none none).run Try.prog W = .ok (.slice (ap (cutp c m sz p)) (n - m) (c - m)) W := by
  obtain ⟨i, hi, hsz⟩ := Option.map_eq_some_iff.1 hinfo
  have hel : Try.prog.elem t = e := by simp [Program.elem, ht]
  have hu : Try.prog.underlying t = some (.slice (Try.prog.elem t)) := by rw [hel]; exact ht
  rw [run_slice_l W t (ap p) n c hu .i64 (m : Int) (Int.natCast_nonneg _) (by omega), hel]
  rw [← ap_cutp]
  simp [sizeOf, typeInfo, hi, hsz, sliced, Result.andThen]
section
variable {B b : Nat} {w w1 : World} {pa pt : Option (Nat × Nat)} {ca ct : Nat} {now : Int} {D : List E} {S : Nat → Prop}
theorem rnext_none (w0 : World) (h : DS B w0 b pa pt ca ct now []) : Calls Try.prog 13 #[.pointer (some ⟨b, 0, none⟩)] w0 fun e w' => e = .returned (.tuple #[.agg #[.int .i64 0, .int .i64 0, .int .i64 0, .bool false, .string ⟨#[]⟩], .bool false]) ∧ Below w0.heap.size w0 w' := by
  have hal : Below w0.heap.size w0 (w0.alloc (.cells #[.int .i64 0, .int .i64 0, .int .i64 0, .bool false, .string ⟨#[]⟩] 28)) := below_alloc (Below.refl _ _) _
  have c1 : (w0.alloc (.cells #[.int .i64 0, .int .i64 0, .int .i64 0, .bool false, .string ⟨#[]⟩] 28)).cell? ⟨b, 1, none⟩ = some (.slice (ap pa) 0 ca) := (blk_cell (blk_below h.box hal) 1).trans rfl
  clear h
  go_enter Try.func13, Try.ntmps13
  go_wp2
  refine bodyPost_ret (v := .tuple #[.agg #[.int .i64 0, .int .i64 0, .int .i64 0, .bool false, .string ⟨#[]⟩], .bool false]) ?_ rfl ?_
  · rw [results_cell_tmp rfl]
    go_simp
  · exact ⟨rfl, hal⟩
def RNextPost (B b : Nat) (pa pt : Option (Nat × Nat)) (ca ct : Nat) (now : Int) (y : E) (r : List E) (W : World) (e : Ending) (w' : World) : Prop :=
  e = .returned (.tuple #[actV y.a, .bool true]) ∧ DS B w' b (cutp ca 1 5 pa) (cutp ct 1 1 pt) (ca - 1) (ct - 1) (max now y.t) r ∧ Ch (fun k => k = b) W w'
set_option maxHeartbeats 2000000 in
theorem rnext_any (y : E) (r : List E) (w0 : World) (h : DS B w0 b pa pt ca ct now (y :: r)) : Calls Try.prog 13 #[.pointer (some ⟨b, 0, none⟩)] w0 (RNextPost B b pa pt ca ct now y r w0) := by
  obtain ⟨ga, oa, rfl, x, hx, e0, e1, e2, e3, e4⟩ := h.ra.act 0 (by simp)
  have hxy : x = y.a := by simpa using hx.symm
  subst hxy
  obtain ⟨gt, ot, rfl, et⟩ := h.rt.tm 0 (by simp)
  simp only [Nat.zero_mul, Nat.add_zero, List.getD_cons_zero] at e0 e1 e2 e3 e4 et
  obtain ⟨m, hm⟩ : ∃ m, r.length = m := ⟨_, rfl⟩
  have hbox := h.box
  rw [show (y :: r).length = m + 1 by simp [hm]] at hbox
  simp only [ap, Option.map_some] at hbox
  obtain ⟨yt, hyt⟩ : ∃ yt, y.t = yt := ⟨_, rfl⟩
  rw [hyt] at et
  have h1 : Below w0.heap.size w0 (w0.alloc (.cells #[.int .i64 0, .int .i64 0, .int .i64 0, .bool false, .string ⟨#[]⟩] 28)) := below_alloc (Below.refl _ _) _
  have h2 : Below (w0.alloc (.cells #[.int .i64 0, .int .i64 0, .int .i64 0, .bool false, .string ⟨#[]⟩] 28)).heap.size (w0.alloc (.cells #[.int .i64 0, .int .i64 0, .int .i64 0, .bool false, .string ⟨#[]⟩] 28)) ((w0.alloc (.cells #[.int .i64 0, .int .i64 0, .int .i64 0, .bool false, .string ⟨#[]⟩] 28)).alloc (.cells #[.int .i64 y.a.k, .int .i64 y.a.nd, .int .i64 y.a.n, .bool y.a.up, .string y.a.s] 28)) := below_alloc (Below.refl _ _) _
  have bx1 := blk_below hbox h1
  have c1 : (w0.alloc (.cells #[.int .i64 0, .int .i64 0, .int .i64 0, .bool false, .string ⟨#[]⟩] 28)).cell? ⟨b, 1, none⟩ = some (.slice (some ⟨ga, oa, none⟩) (m + 1) ca) := (blk_cell bx1 1).trans rfl
  have a0 := pw_cell_below h1 e0
  have a1 := pw_cell_below h1 e1
  have a2 := pw_cell_below h1 e2
  have a3 := pw_cell_below h1 e3
  have a4 := pw_cell_below h1 e4
  have hq : (((m + 1 : Nat) : Int) == 0) = false := beq_eq_false_iff_ne.2 (by omega)
  have hq2 : (((m : Int) + 1) == 0) = false := beq_eq_false_iff_ne.2 (by omega)
  have hmI : (0 : Int) < (m : Int) + 1 := by omega
  have HX : Aside0 (((w0.alloc (.cells #[.int .i64 0, .int .i64 0, .int .i64 0, .bool false, .string ⟨#[]⟩] 28)).alloc (.cells #[.int .i64 y.a.k, .int .i64 y.a.nd, .int .i64 y.a.n, .bool y.a.up, .string y.a.s] 28)).heap[b]? = some (.cells #[.int .i64 now, .slice (some ⟨ga, oa, none⟩) (m + 1) ca, .slice (some ⟨gt, ot, none⟩) (m + 1) ct] 38 (0, 0)) ∧ ((w0.alloc (.cells #[.int .i64 0, .int .i64 0, .int .i64 0, .bool false, .string ⟨#[]⟩] 28)).alloc (.cells #[.int .i64 y.a.k, .int .i64 y.a.nd, .int .i64 y.a.n, .bool y.a.up, .string y.a.s] 28)).cell? ⟨gt, ot, none⟩ = some (.int .i64 yt) ∧ ((w0.alloc (.cells #[.int .i64 0, .int .i64 0, .int .i64 0, .bool false, .string ⟨#[]⟩] 28)).alloc (.cells #[.int .i64 y.a.k, .int .i64 y.a.nd, .int .i64 y.a.n, .bool y.a.up, .string y.a.s] 28)).heap[(w0.alloc (.cells #[.int .i64 0, .int .i64 0, .int .i64 0, .bool false, .string ⟨#[]⟩] 28)).heap.size]? = some (.cells #[.int .i64 y.a.k, .int .i64 y.a.nd, .int .i64 y.a.n, .bool y.a.up, .string y.a.s] 28 (0, 0)) ∧ ((w0.alloc (.cells #[.int .i64 0, .int .i64 0, .int .i64 0, .bool false, .string ⟨#[]⟩] 28)).alloc (.cells #[.int .i64 y.a.k, .int .i64 y.a.nd, .int .i64 y.a.n, .bool y.a.up, .string y.a.s] 28)).heap[w0.heap.size]? = some (.cells #[.int .i64 0, .int .i64 0, .int .i64 0, .bool false, .string ⟨#[]⟩] 28 (0, 0)) ∧ Below w0.heap.size w0 ((w0.alloc (.cells #[.int .i64 0, .int .i64 0, .int .i64 0, .bool false, .string ⟨#[]⟩] 28)).alloc (.cells #[.int .i64 y.a.k, .int .i64 y.a.nd, .int .i64 y.a.n, .bool y.a.up, .string y.a.s] 28))) := ⟨blk_below bx1 h2, pw_cell_below h2 (pw_cell_below h1 et), blk_new _ _, blk_below (blk_new w0 _) h2, below_step h1 h2⟩
  have HN : Aside0 (r.length = m ∧ y.t = yt) := ⟨hm, hyt⟩
  have H := Aside0.mk h
  have hbl := blk_lt hbox
  have h42 : w0.heap.size ≠ (w0.alloc (.cells #[.int .i64 0, .int .i64 0, .int .i64 0, .bool false, .string ⟨#[]⟩] 28)).heap.size := by simp
  have h4b : (w0.alloc (.cells #[.int .i64 0, .int .i64 0, .int .i64 0, .bool false, .string ⟨#[]⟩] 28)).heap.size ≠ b := by simp; omega
  have h2b : w0.heap.size ≠ b := by omega
  have HNE := Aside0.mk (And.intro h42 (And.intro h4b h2b))
  clear h hbox h1 h2 bx1 hm hyt e0 e1 e2 e3 e4 et hx h42 h4b h2b hbl
  go_enter Try.func13, Try.ntmps13
  go_upto_region 4 with fail
  generalize (w0.alloc (.cells #[.int .i64 0, .int .i64 0, .int .i64 0, .bool false, .string ⟨#[]⟩] 28)).alloc (.cells #[.int .i64 y.a.k, .int .i64 y.a.nd, .int .i64 y.a.n, .bool y.a.up, .string y.a.s] 28) = W at HX ⊢
  clear c1 a0 a1 a2 a3 a4
  have HBL := Aside0.mk HX.out.2.2.2.2
  have hs1 : (w0.alloc (.cells #[.int .i64 0, .int .i64 0, .int .i64 0, .bool false, .string ⟨#[]⟩] 28)).heap.size = w0.heap.size + 1 := by simp
  rw [hs1] at HX HNE
  clear hs1
  have HX2 := Aside0.mk (And.intro HX.out.1 (And.intro HX.out.2.1 (And.intro HX.out.2.2.1 HX.out.2.2.2.1)))
  clear HX
  obtain ⟨x2, hx2⟩ : ∃ x2, w0.heap.size = x2 := ⟨_, rfl⟩
  have HX2L : Aside0 (w0.heap.size ≤ x2) := ⟨Nat.le_of_eq hx2⟩
  rw [hx2] at HX2 HNE ⊢
  clear hx2
  obtain ⟨x4, hx4⟩ : ∃ x4, x2 + 1 = x4 := ⟨_, rfl⟩
  rw [hx4] at HX2 HNE ⊢
  clear hx4
  obtain ⟨nw, hnw⟩ : ∃ nw, max now yt = nw := ⟨_, rfl⟩
  have HNW := Aside0.mk hnw
  clear hnw
  go_wp2
  obtain ⟨wd, hwd⟩ : ∃ wd, W.drew = wd := ⟨_, rfl⟩
  have HZ : Aside0 (wd.heap[b]? = some (.cells #[.int .i64 now, (.slice (some ⟨ga, oa, none⟩) (m + 1) ca), (.slice (some ⟨gt, ot, none⟩) (m + 1) ct)] 38 (0, 0)) ∧ wd.cell? ⟨gt, ot, none⟩ = some (.int .i64 yt) ∧ wd.heap[x4]? = some (.cells #[.int .i64 y.a.k, .int .i64 y.a.nd, .int .i64 y.a.n, .bool y.a.up, .string y.a.s] 28 (0, 0)) ∧ wd.heap[x2]? = some (.cells #[.int .i64 0, .int .i64 0, .int .i64 0, .bool false, .string ⟨#[]⟩] 28 (0, 0)) ∧ Below w0.heap.size w0 wd) := ⟨hwd ▸ ⟨HX2.out.1, HX2.out.2.1, HX2.out.2.2.1, HX2.out.2.2.2, below_drew HBL.out⟩⟩
  have HS : Aside0 (wd.heap[b]? = some (.cells #[.int .i64 now, (.slice (some ⟨ga, oa, none⟩) (m + 1) ca), (.slice (some ⟨gt, ot, none⟩) (m + 1) ct)] 38 (0, 0)) ∧ wd.cell? ⟨gt, ot, none⟩ = some (.int .i64 yt)) := ⟨HZ.out.1, HZ.out.2.1⟩
  clear HX2 HBL
  refine St.steadyW (n := 15) (by kernel_rfl) ([] :: [] :: [(1, 19)] :: [(2, 20)] :: [(3, 21)] :: [] :: [(5, 23)] :: [(6, 24)] :: [(7, 25)] :: [(8, 26)] :: [(9, 27)] :: [(4, 22), (10, 28)] :: [(0, 18)] :: [(12, 30)] :: [(11, 29), (13, 31)] :: []) (some 18 :: some 19 :: some 20 :: some 21 :: some 22 :: some 23 :: some 24 :: some 25 :: some 26 :: some 27 :: some 28 :: some 29 :: some 30 :: some 31 :: none :: []) (by kernel_rfl) 14 (0 :: 0 :: 0 :: 0 :: 0 :: 0 :: 0 :: 0 :: 0 :: 0 :: 0 :: 0 :: 0 :: 0 :: 1 :: []) (by kernel_rfl) rfl (by decide) ((St.eqT ?c4_0x7) :: (St.eqT ?c4_1x7) :: (St.eqT ?c4_2x7) :: (St.eqT ?c4_3x7) :: (St.eqT ?c4_4x7) :: (St.eqT ?c4_5x7) :: (St.eqT ?c4_6x7) :: (St.eqT ?c4_7x7) :: (St.eqT ?c4_8x7) :: (St.eqT ?c4_9x7) :: (St.eqT ?c4_10x7) :: (St.eqT (.int .i64 nw)) :: (St.eqT ?c4_12x7) :: (St.eqT ?c4_13x7) :: (St.eqT undef) :: []) rfl (by rfl) (fun w' => w' = wd) (fun w w' => w = w') (fun w w' => w' = w.setCell ⟨b, 0, none⟩ (.int .i64 nw)) (fun w' => w' = wd.setCell ⟨b, 0, none⟩ (.int .i64 nw)) (fun w w' => w = w') ?hst ?h0 ?hB ?hC ?hop ?hend
  case hop =>
    refine ⟨?_, ?_, ?_, ?_, ?_, ?_, ?_, ?_, ?_, ?_, ?_, ?_, ?_, ?_, ?_, trivial⟩
    · intro w hB
      simp only [St.withD]
      refine St.ob_value (v := ?_) (w' := w) (by rfl) ?_ ⟨rfl, ?_⟩
      rotate_left
      · go_simp
        with_reducible rfl
      · rfl
    · intro w hB
      simp only [St.withD]
      refine St.ob_value (v := ?_) (w' := w) (by rfl) ?_ ⟨rfl, ?_⟩
      rotate_left
      · go_simp
        with_reducible rfl
      · rfl
    · intro w hB; rintro _ ⟨_, rfl⟩
      simp only [St.withD, List.nil_append, List.cons_append, Act.put, List.setIfInBounds_toArray, List.set_cons_zero, List.set_cons_succ]
      refine St.ob_value (v := ?_) (w' := w) (by rfl) ?_ ⟨rfl, ?_⟩
      rotate_left
      · go_simp
        with_reducible rfl
      · rfl
    · intro w hB; rintro _ ⟨_, rfl⟩
      simp only [St.withD, List.nil_append, List.cons_append, Act.put, List.setIfInBounds_toArray, List.set_cons_zero, List.set_cons_succ]
      refine St.ob_value (v := ?_) (w' := w) (by rfl) ?_ ⟨rfl, ?_⟩
      rotate_left
      · go_simp
        with_reducible rfl
      · rfl
    · intro w hB; rintro _ ⟨_, rfl⟩
      simp only [St.withD, List.nil_append, List.cons_append, Act.put, List.setIfInBounds_toArray, List.set_cons_zero, List.set_cons_succ]
      have hs := HS.out
      rw [← hB] at hs
      have c0 : w.cell? ⟨b, 0, none⟩ = some (.int .i64 now) := (blk_cell hs.1 0).trans rfl
      have c2 : w.cell? ⟨b, 2, none⟩ = some (.slice (some ⟨gt, ot, none⟩) (m + 1) ct) := (blk_cell hs.1 2).trans rfl
      have b0 : w.cell? ⟨gt, ot, none⟩ = some (.int .i64 yt) := hs.2
      refine St.ob_value (v := ?_) (w' := w) (by rfl) ?_ ⟨rfl, ?_⟩
      rotate_left
      · go_simp
        with_reducible rfl
      · rfl
    · intro w hB
      simp only [St.withD]
      refine St.ob_value (v := ?_) (w' := w) (by rfl) ?_ ⟨rfl, ?_⟩
      rotate_left
      · go_simp
        with_reducible rfl
      · rfl
    · intro w hB; rintro _ ⟨_, rfl⟩
      simp only [St.withD, List.nil_append, List.cons_append, Act.put, List.setIfInBounds_toArray, List.set_cons_zero, List.set_cons_succ]
      refine St.ob_value (v := ?_) (w' := w) (by rfl) ?_ ⟨rfl, ?_⟩
      rotate_left
      · go_simp
        with_reducible rfl
      · rfl
    · intro w hB; rintro _ ⟨_, rfl⟩
      simp only [St.withD, List.nil_append, List.cons_append, Act.put, List.setIfInBounds_toArray, List.set_cons_zero, List.set_cons_succ]
      refine St.ob_value (v := ?_) (w' := w) (by rfl) ?_ ⟨rfl, ?_⟩
      rotate_left
      · go_simp
        with_reducible rfl
      · rfl
    · intro w hB; rintro _ ⟨_, rfl⟩
      simp only [St.withD, List.nil_append, List.cons_append, Act.put, List.setIfInBounds_toArray, List.set_cons_zero, List.set_cons_succ]
      have hs := HS.out
      rw [← hB] at hs
      have c0 : w.cell? ⟨b, 0, none⟩ = some (.int .i64 now) := (blk_cell hs.1 0).trans rfl
      have c2 : w.cell? ⟨b, 2, none⟩ = some (.slice (some ⟨gt, ot, none⟩) (m + 1) ct) := (blk_cell hs.1 2).trans rfl
      have b0 : w.cell? ⟨gt, ot, none⟩ = some (.int .i64 yt) := hs.2
      refine St.ob_value (v := ?_) (w' := w) (by rfl) ?_ ⟨rfl, ?_⟩
      rotate_left
      · go_simp
        with_reducible rfl
      · rfl
    · intro w hB; rintro _ ⟨_, rfl⟩
      simp only [St.withD, List.nil_append, List.cons_append, Act.put, List.setIfInBounds_toArray, List.set_cons_zero, List.set_cons_succ]
      refine St.ob_value (v := ?_) (w' := w) (by rfl) ?_ ⟨rfl, ?_⟩
      rotate_left
      · go_simp
        with_reducible rfl
      · rfl
    · intro w hB; rintro _ ⟨_, rfl⟩
      simp only [St.withD, List.nil_append, List.cons_append, Act.put, List.setIfInBounds_toArray, List.set_cons_zero, List.set_cons_succ]
      have hs := HS.out
      rw [← hB] at hs
      have c0 : w.cell? ⟨b, 0, none⟩ = some (.int .i64 now) := (blk_cell hs.1 0).trans rfl
      have c2 : w.cell? ⟨b, 2, none⟩ = some (.slice (some ⟨gt, ot, none⟩) (m + 1) ct) := (blk_cell hs.1 2).trans rfl
      have b0 : w.cell? ⟨gt, ot, none⟩ = some (.int .i64 yt) := hs.2
      refine St.ob_value (v := ?_) (w' := w) (by rfl) ?_ ⟨rfl, ?_⟩
      rotate_left
      · go_simp
        with_reducible rfl
      · rfl
    · intro w hB; rintro _ ⟨_, rfl⟩ _ ⟨_, rfl⟩
      simp only [St.withD, List.nil_append, List.cons_append, Act.put, List.setIfInBounds_toArray, List.set_cons_zero, List.set_cons_succ]
      refine St.ob_value (v := .int .i64 nw) (w' := w) (by rfl) ?_ ⟨rfl, rfl⟩
      clear hB
      by_cases hm : now < yt
      · have e : nw = yt := by rw [← HNW.out]; omega
        rw [e]
        go_simp
        try omega
      · have e : nw = now := by rw [← HNW.out]; omega
        rw [e]
        go_simp
        try omega
    · intro w hB; rintro _ ⟨_, rfl⟩
      simp only [St.withD, List.nil_append, List.cons_append, Act.put, List.setIfInBounds_toArray, List.set_cons_zero, List.set_cons_succ]
      refine St.ob_value (v := ?_) (w' := w) (by rfl) ?_ ⟨rfl, ?_⟩
      rotate_left
      · go_simp
        with_reducible rfl
      · rfl
    · intro w hB; rintro _ ⟨_, rfl⟩
      simp only [St.withD, List.nil_append, List.cons_append, Act.put, List.setIfInBounds_toArray, List.set_cons_zero, List.set_cons_succ]
      refine St.ob_value (v := ?_) (w' := w) (by rfl) ?_ ⟨rfl, ?_⟩
      rotate_left
      · go_simp
        with_reducible rfl
      · rfl
    · intro w hB; rintro _ ⟨_, rfl⟩ _ ⟨_, rfl⟩
      simp only [St.withD, List.nil_append, List.cons_append, Act.put, List.setIfInBounds_toArray, List.set_cons_zero, List.set_cons_succ]
      have hs := HS.out
      rw [← hB] at hs
      have c1 : w.cell? ⟨b, 0, none⟩ = some (.int .i64 now) := (blk_cell hs.1 0).trans rfl
      have f1 := blk_frozen hs.1 0
      refine St.ob_skip (w' := w.setCell ⟨b, 0, none⟩ (.int .i64 nw)) (by rfl) ?_ ⟨⟨rfl, by rw [hB]⟩, rfl⟩
      clear hs hB
      go_simp
  case hst => exact ⟨St.eqT_st, St.eqT_st, St.eqT_st, St.eqT_st, St.eqT_st, St.eqT_st, St.eqT_st, St.eqT_st, St.eqT_st, St.eqT_st, St.eqT_st, St.eqT_st, St.eqT_st, St.eqT_st, St.eqT_st, trivial⟩
  case h0 => exact hwd
  case hB => exact fun w w' h e => e ▸ h
  case hC => (intro w w' h e; subst e; exact h)
  case hend =>
    intro w hB
    rintro _ rfl _ rfl _ rfl _ rfl _ rfl _ rfl _ rfl _ rfl _ rfl _ rfl _ rfl _ rfl _ rfl _ rfl _ rfl
    simp only [List.map_cons, List.map_nil, List.nil_append, List.cons_append, List.getD_cons_zero, List.getD_cons_succ, Act.put, List.setIfInBounds_toArray, List.set_cons_zero, List.set_cons_succ]
    rw [St.withE_nil]
    subst hB
    have q1 := blk_put HZ.out.1 0 (.int .i64 nw) (cs' := #[.int .i64 nw, (.slice (some ⟨ga, oa, none⟩) (m + 1) ca), (.slice (some ⟨gt, ot, none⟩) (m + 1) ct)]) rfl
    have q4 := blk_far HZ.out.2.2.1 (p := ⟨b, 0, none⟩) HNE.out.2.1 (.int .i64 nw)
    have q2 := blk_far HZ.out.2.2.2.1 (p := ⟨b, 0, none⟩) HNE.out.2.2 (.int .i64 nw)
    have qc : Ch (fun k => k = b) w0 (wd.setCell ⟨b, 0, none⟩ (.int .i64 nw)) := (Ch.of_below HZ.out.2.2.2.2).set rfl
    have HQ := Aside0.mk (And.intro q1 (And.intro q4 (And.intro q2 qc)))
    clear q1 q4 q2 qc HZ HS
    generalize wd.setCell ⟨b, 0, none⟩ (.int .i64 nw) = w1 at HQ ⊢
    have c1 : w1.cell? ⟨b, 1, none⟩ = some (.slice (some ⟨ga, oa, none⟩) (m + 1) ca) := (blk_cell HQ.out.1 1).trans rfl
    have f1 := blk_frozen HQ.out.1 1
    go_upto_region 6 with fail
    rw [show (if ca = 1 then some (⟨ga, oa, none⟩ : Addr) else some ⟨ga, oa + 5, none⟩) = ap (cutp ca 1 5 (some (ga, oa))) by unfold cutp; split <;> rfl]
    have q1 := blk_put HQ.out.1 1 (.slice (ap (cutp ca 1 5 (some (ga, oa)))) m (ca - 1)) (cs' := #[.int .i64 nw, (.slice (ap (cutp ca 1 5 (some (ga, oa)))) m (ca - 1)), (.slice (some ⟨gt, ot, none⟩) (m + 1) ct)]) rfl
    have q4 := blk_far HQ.out.2.1 (p := ⟨b, 1, none⟩) HNE.out.2.1 (.slice (ap (cutp ca 1 5 (some (ga, oa)))) m (ca - 1))
    have q2 := blk_far HQ.out.2.2.1 (p := ⟨b, 1, none⟩) HNE.out.2.2 (.slice (ap (cutp ca 1 5 (some (ga, oa)))) m (ca - 1))
    have qc := HQ.out.2.2.2.set (i := 1) (v := (.slice (ap (cutp ca 1 5 (some (ga, oa)))) m (ca - 1))) rfl
    have HP := Aside0.mk (And.intro q1 (And.intro q4 (And.intro q2 qc)))
    clear q1 q4 q2 qc HQ c1 f1
    generalize w1.setCell ⟨b, 1, none⟩ (.slice (ap (cutp ca 1 5 (some (ga, oa)))) m (ca - 1)) = w2 at HP ⊢
    have c2 : w2.cell? ⟨b, 2, none⟩ = some (.slice (some ⟨gt, ot, none⟩) (m + 1) ct) := (blk_cell HP.out.1 2).trans rfl
    have f2 := blk_frozen HP.out.1 2
    go_upto_region 7 with fail
    rw [show (if ct = 1 then some (⟨gt, ot, none⟩ : Addr) else some ⟨gt, ot + 1, none⟩) = ap (cutp ct 1 1 (some (gt, ot))) by unfold cutp; split <;> rfl]
    have q1 := blk_put HP.out.1 2 (.slice (ap (cutp ct 1 1 (some (gt, ot)))) m (ct - 1)) (cs' := #[.int .i64 nw, (.slice (ap (cutp ca 1 5 (some (ga, oa)))) m (ca - 1)), (.slice (ap (cutp ct 1 1 (some (gt, ot)))) m (ct - 1))]) rfl
    have q4 := blk_far HP.out.2.1 (p := ⟨b, 2, none⟩) HNE.out.2.1 (.slice (ap (cutp ct 1 1 (some (gt, ot)))) m (ct - 1))
    have q2 := blk_far HP.out.2.2.1 (p := ⟨b, 2, none⟩) HNE.out.2.2 (.slice (ap (cutp ct 1 1 (some (gt, ot)))) m (ct - 1))
    have qc := HP.out.2.2.2.set (i := 2) (v := (.slice (ap (cutp ct 1 1 (some (gt, ot)))) m (ct - 1))) rfl
    have HF := Aside0.mk (And.intro q1 (And.intro q4 (And.intro q2 qc)))
    clear q1 q4 q2 qc HP c2 f2
    generalize w2.setCell ⟨b, 2, none⟩ (.slice (ap (cutp ct 1 1 (some (gt, ot)))) m (ct - 1)) = wz at HF ⊢
    have d0 : wz.cell? ⟨x4, 0, none⟩ = some (.int .i64 y.a.k) := (blk_cell HF.out.2.1 0).trans rfl
    have d1 : wz.cell? ⟨x4, 1, none⟩ = some (.int .i64 y.a.nd) := (blk_cell HF.out.2.1 1).trans rfl
    have d2 : wz.cell? ⟨x4, 2, none⟩ = some (.int .i64 y.a.n) := (blk_cell HF.out.2.1 2).trans rfl
    have d3 : wz.cell? ⟨x4, 3, none⟩ = some (.bool y.a.up) := (blk_cell HF.out.2.1 3).trans rfl
    have d4 : wz.cell? ⟨x4, 4, none⟩ = some (.string y.a.s) := (blk_cell HF.out.2.1 4).trans rfl
    have k0 : wz.cell? ⟨x2, 0, none⟩ = some (.int .i64 0) := (blk_cell HF.out.2.2.1 0).trans rfl
    have k1 : wz.cell? ⟨x2, 1, none⟩ = some (.int .i64 0) := (blk_cell HF.out.2.2.1 1).trans rfl
    have k2 : wz.cell? ⟨x2, 2, none⟩ = some (.int .i64 0) := (blk_cell HF.out.2.2.1 2).trans rfl
    have k3 : wz.cell? ⟨x2, 3, none⟩ = some (.bool false) := (blk_cell HF.out.2.2.1 3).trans rfl
    have k4 : wz.cell? ⟨x2, 4, none⟩ = some (.string ⟨#[]⟩) := (blk_cell HF.out.2.2.1 4).trans rfl
    have f0 := blk_frozen HF.out.2.2.1 0
    have f1 := blk_frozen HF.out.2.2.1 1
    have f2 := blk_frozen HF.out.2.2.1 2
    have f3 := blk_frozen HF.out.2.2.1 3
    have f4 := blk_frozen HF.out.2.2.1 4
    go_wp2
    refine bodyPost_ret (v := .tuple #[.agg #[.int .i64 y.a.k, .int .i64 y.a.nd, .int .i64 y.a.n, .bool y.a.up, .string y.a.s], .bool true]) ?_ rfl ?_
    · rw [results_cell_tmp rfl]
      go_simp
    · have hxx := HX2L.out
      have hnb := HNE.out.2.2
      have hcz := ((((HF.out.2.2.2.setNew (i := 0) (v := .int .i64 y.a.k) hxx).setNew (i := 1) (v := .int .i64 y.a.nd) hxx).setNew (i := 2) (v := .int .i64 y.a.n) hxx).setNew (i := 3) (v := .bool y.a.up) hxx).setNew (i := 4) (v := .string y.a.s) hxx
      have hbz := blk_far (blk_far (blk_far (blk_far (blk_far HF.out.1 (p := ⟨x2, 0, none⟩) (Ne.symm hnb) (.int .i64 y.a.k)) (p := ⟨x2, 1, none⟩) (Ne.symm hnb) (.int .i64 y.a.nd)) (p := ⟨x2, 2, none⟩) (Ne.symm hnb) (.int .i64 y.a.n)) (p := ⟨x2, 3, none⟩) (Ne.symm hnb) (.bool y.a.up)) (p := ⟨x2, 4, none⟩) (Ne.symm hnb) (.string y.a.s)
      have hD := H.out
      refine ⟨rfl, ⟨?_, ?_, ?_, by have := hD.la; simp at this; omega, by have := hD.lt; simp at this; omega, ?_, ?_, fun e => by have := hD.na (cutp_none e); omega, fun e => by have := hD.nt (cutp_none e); omega, hD.lo⟩, hcz⟩
      · rw [HN.out.1, HN.out.2, HNW.out]; exact hbz
      · have := (hD.ra.ch hcz (fun q e => (hD.ba q e).1)).drop ca 1 5 (by rw [aas_len]; have := hD.la; omega)
        have e5 : (aas (y :: r)).drop (1 * 5) = aas r := by unfold aas; rw [← acs_drop]; rfl
        rwa [e5] at this
      · exact (hD.rt.ch hcz (fun q e => (hD.bt q e).1)).drop ct 1 1 (by rw [tms_len]; have := hD.lt; omega)
      · intro q e
        obtain ⟨q', e1, e2⟩ := cutp_blk e
        have := hD.ba q' e1
        rw [e2] at this
        exact ⟨this.1, this.2.1, Nat.lt_of_lt_of_le this.2.2 hcz.size⟩
      · intro q e
        obtain ⟨q', e1, e2⟩ := cutp_blk e
        have := hD.bt q' e1
        rw [e2] at this
        exact ⟨this.1, this.2.1, Nat.lt_of_lt_of_le this.2.2 hcz.size⟩
end
end Go.Proofs.Ytfijbhacobjjgag
