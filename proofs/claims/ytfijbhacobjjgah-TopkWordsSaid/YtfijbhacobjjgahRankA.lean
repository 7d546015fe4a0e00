/- The document's Before; a top is the document's. -/
import Derived.Test.YtfijbhacobjjgahDocC
import Derived.Test.YtfijbhacobjjgahAwakeA
import Derived.Test.YtfijbhacobjjgahLaw49d
namespace Go.Proofs.Ytfijbhacobjjgah
open Go.RowKit Go.Proofs.YtfijbhacobjjgahW.PrintWords Go.Proofs.YtfijbhacobjjgahW.PrintLast Go.Proofs.YtfijbhacobjjgahW.PrintMore Go.Proofs.Ytfijbhacobjjgah.Fr
set_option linter.unusedVariables false
set_option linter.unusedSimpArgs false
attribute [local go_sem] max2_int min2_int max_two min_two

open Pl Hp
theorem eqA37 (d : Nat) (w : World) (x0 y0 : ByteArray) (x1 y1 : Int) :
    (Op.equalIn (d + 2) 37 (.agg #[.string x0, .int .i64 x1]) (.agg #[.string y0, .int .i64 y1])).run Try.prog w = .ok (x0.toList == y0.toList && (x1 == y1)) w := by
  refine eqA_of Try.underlying37 (by kernel_rfl) ?_
  refine eqf_cons (by rfl) (by go_simp; rfl) (by go_simp; rfl) (by go_simp) ?_
  exact eqf_last (by rfl) (by go_simp; rfl) (by go_simp; rfl) (by go_simp)
section
attribute [local go_sem high] eqA37
theorem ritem_ne2 {s s' : ByteArray} {c c' : Int} (w : World) : (binOp .neq 37 (.agg #[.string s, .int .i64 c]) (.agg #[.string s', .int .i64 c'])).run Try.prog w = .ok (.bool (!(s.toList == s'.toList && c == c'))) w := by
  go_simp
end
theorem ritem_ne (x : It) (w : World) : (binOp .neq 37 (.agg #[.string x.t, .int .i64 x.c]) (.agg #[.string x.t, .int .i64 x.c])).run Try.prog w = .ok (.bool false) w := by
  rw [ritem_ne2]
  simp
theorem before_any (x y : It) (w : World) : Calls Try.prog 21 #[.agg #[.string x.t, .int .i64 x.c], .agg #[.string y.t, .int .i64 y.c]] w fun e w' => e = .returned (.bool (ilt x y)) ∧ Below w.heap.size w w' := by
  obtain ⟨tx, cx⟩ := x
  obtain ⟨ty, cy⟩ := y
  have hbel : Below w.heap.size w ((w.alloc (.cells #[.string tx, .int .i64 cx] 37)).alloc (.cells #[.string ty, .int .i64 cy] 37)) := below_alloc (below_alloc (Below.refl _ _) _) _
  have HB := Aside0.mk hbel
  clear hbel
  by_cases h1 : cy < cx
  · have E : Aside0 (ilt ⟨tx, cx⟩ ⟨ty, cy⟩ = true) := ⟨by rw [ilt_iff]; exact .inl h1⟩
    go_enter Try.func21, Try.ntmps21
    go_wp2
    go_ret
    rw [E.out]
    exact ⟨rfl, HB.out⟩
  · by_cases h2 : cx = cy
    · subst h2
      have hq : (cx == cx) = true := by simp
      cases h3 : Go.Op.bytesLess tx.toList ty.toList
      · have E : Aside0 (ilt ⟨tx, cx⟩ ⟨ty, cx⟩ = false) := ⟨by rw [ilt_not]; rintro (h | ⟨_, h⟩); exact h1 h; exact absurd (show Go.Op.bytesLess tx.toList ty.toList = true from h) (by rw [h3]; decide)⟩
        go_enter Try.func21, Try.ntmps21
        go_wp2
        go_ret
        rw [E.out]
        exact ⟨rfl, HB.out⟩
      · have E : Aside0 (ilt ⟨tx, cx⟩ ⟨ty, cx⟩ = true) := ⟨by rw [ilt_iff]; exact .inr ⟨rfl, h3⟩⟩
        go_enter Try.func21, Try.ntmps21
        go_wp2
        go_ret
        rw [E.out]
        exact ⟨rfl, HB.out⟩
    · have E : Aside0 (ilt ⟨tx, cx⟩ ⟨ty, cy⟩ = false) := ⟨by rw [ilt_not]; rintro (h | ⟨h, _⟩); exact h1 h; exact h2 h⟩
      have hq : (cx == cy) = false := by simp [h2]
      go_enter Try.func21, Try.ntmps21
      go_wp2
      go_ret
      rw [E.out]
      exact ⟨rfl, HB.out⟩
theorem cnt_step (p : It → Bool) (L : List It) (i : Nat) (hi : i < L.length) : (L.take (i + 1)).countP p = (L.take i).countP p + if p (L.getD i ez) then 1 else 0 := by
  rw [List.take_succ_eq_append_getElem hi, List.countP_append, List.getD_eq_getElem?_getD, List.getElem?_eq_getElem hi]
  simp [List.countP_cons]
section
variable {B b room : Nat} {w w1 : World} {v : Value} {L : List It} {S : Nat → Prop}
set_option maxRecDepth 100000 in
set_option maxHeartbeats 8000000 in
theorem ranked_any (w0 : World) (p : Option (Nat × Nat)) (c : Nat) (o R : List It) (k : Int) (h : DT B w0 b room v L) (hl : L.length ≤ 1000) (hnd : Ndp L)
    (ho : (o.length : Int) = brI k 0 L.length) (hrd : RdC w0 p (ents o)) (hpm : (o ++ R).Perm L) (hpw : o.Pairwise (fun x y => ilt x y = true)) (hlo : ∀ x ∈ o, ∀ y ∈ R, ilt x y = true) :
    Calls Try.prog 13 #[.slice (ap p) o.length c, .pointer (some ⟨b, 0, none⟩), .int .i64 k] w0 fun e w' => e = .returned (.bool true) ∧ Below w0.heap.size w0 w' := by
  obtain ⟨A, cr, rfl, hlc⟩ := h.slice
  obtain ⟨m, hm⟩ : ∃ m, L.length = m := ⟨_, rfl⟩
  obtain ⟨n, hn⟩ : ∃ n, o.length = n := ⟨_, rfl⟩
  have H := Aside0.mk (And.intro h (And.intro hm (And.intro hn (And.intro hl (And.intro hnd (And.intro hrd (And.intro hpm (And.intro hpw hlo))))))))
  have hbx := h.box
  rw [hm] at hbx
  have k1 : w0.cell? ⟨b, 1, none⟩ = some (.slice A m cr) := (blk_cell hbx 1).trans rfl
  have hq : ((n : Int) != min (max k 0) m) = false := by
    have : (n : Int) = min (max k 0) m := by rw [← hn, ho, hm]; rfl
    rw [this]; simp
  have hn1 : n ≤ 1000 := by rw [← hn]; have := hpm.length_eq; rw [List.length_append] at this; omega
  rw [hm] at hl
  rw [hn]
  clear h hlc hm hn hnd hrd hpm hpw hlo ho hbx
  go_enter Try.func13, Try.ntmps13
  go_upto_region 1 with fail
  go_cut [23] from 13 to 24 (fun x23 Wx => x23 = .bool false ∧ w0 = Wx)
  case first =>
    go_wp2_with fail
    all_goals
      go_meet
      case rel => exact ⟨congrArg Value.bool (by simp; simp at hq; omega), rfl⟩
  case rest =>
  obtain ⟨rfl, rfl⟩ := hcut
  go_wp2_with fail
  go_loopg [26] n (fun d x26 wr => ∃ (i : Nat), Aside0 (i + d = n) ∧ x26 = .int .i64 i ∧ Aside0 (Below w0.heap.size w0 wr))
  case atStart => exact ⟨0, ⟨by omega⟩, rfl, ⟨Below.refl _ _⟩⟩
  case round =>
    obtain ⟨i, HI, rfl, HW⟩ := hrel
    clear k1
    by_cases hlt : i < n
    · have hli : (i : Int) < n := by omega
      have hio : i < o.length := by rw [H.out.2.2.1]; exact hlt
      obtain ⟨g, o', rfl, x0, x1⟩ := ((H.out.2.2.2.2.2.1).below HW.out).item i hio
      obtain ⟨x, hx⟩ : ∃ x, o.getD i ez = x := ⟨_, rfl⟩
      have hxo : o[i] = x := by rw [List.getD_eq_getElem?_getD, List.getElem?_eq_getElem hio] at hx; exact hx
      have hxL : x ∈ L := H.out.2.2.2.2.2.2.1.mem_iff.1 (by rw [← hxo]; simp)
      obtain ⟨j, hj, hjx⟩ := List.mem_iff_getElem.1 hxL
      have hps : pos x.t L = j := pos_is H.out.2.2.2.2.1 hj (by rw [hjx])
      have hat : atI x.t L = (j : Nat) := by unfold atI; rw [hps, if_pos hj]
      have hrk : L.countP (fun y => ilt y x) = i := by rw [← hxo]; exact rank H.out.2.2.2.2.2.2.1 H.out.2.2.2.2.2.2.2.1 H.out.2.2.2.2.2.2.2.2 i hio
      have hjd : L.getD j ez = x := by rw [List.getD_eq_getElem?_getD, List.getElem?_eq_getElem hj]; exact hjx
      rw [hx] at x0 x1
      obtain ⟨tx, cx⟩ := x
      simp only at x0 x1 hat hps
      have HX : Aside0 (L.getD j ez = ⟨tx, cx⟩ ∧ j < L.length ∧ L.countP (fun y => ilt y ⟨tx, cx⟩) = i) := ⟨hjd, hj, hrk⟩
      have hjm : j < m := by rw [← H.out.2.1]; exact hj
      clear hx hxo hxL hjx hps hrk hjd hio hj
      simp only [ap, Option.map_some]
      go_upto_region 6 with fail
      obtain ⟨w1, hw1⟩ : ∃ w1, wr.alloc (.cells #[.string tx, .int .i64 cx] 47) = w1 := ⟨_, rfl⟩
      have hbq : w1.heap[wr.heap.size]? = some (.cells #[.string tx, .int .i64 cx] 47 (0, 0)) := by rw [← hw1]; exact blk_new wr _
      have hbw : Below w0.heap.size w0 w1 := by rw [← hw1]; exact below_alloc HW.out _
      rw [hw1]
      obtain ⟨q, hqs⟩ : ∃ q, wr.heap.size = q := ⟨_, rfl⟩
      rw [hqs] at hbq ⊢
      have q0 : w1.cell? ⟨q, 0, none⟩ = some (.string tx) := (blk_cell hbq 0).trans rfl
      have HQ := Aside0.mk (And.intro hbq hbw)
      clear hw1 hqs hbq hbw HW x0 x1
      go_wp2_with fail
      refine (at_any tx w1 (H.out.1.below HQ.out.2) H.out.2.2.2.1).mono ?_
      rintro e w2 ⟨rfl, rfl⟩
      rw [hat]
      obtain ⟨gr, rfl, a0, a1, _⟩ := own_item (H.out.1.below HQ.out.2).row j HX.out.2.1
      rw [HX.out.1] at a0 a1
      have hbx := (H.out.1.below HQ.out.2).box
      rw [H.out.2.1] at hbx
      have hjm2 : (j : Int) < m := by omega
      have hj0 : (0 : Int) ≤ j := by omega
      have hj1 : ¬ (j : Int) < 0 := by omega
      go_upto_region 7 with fail
      go_wp2
      obtain ⟨wd, hwd⟩ : ∃ wd, w1.drew = wd := ⟨_, rfl⟩
      have HS : Aside0 (wd.heap[b]? = some (.cells #[.int .i64 (room : Nat), .slice (some ⟨gr, 0, none⟩) m cr] 40 (0, 0)) ∧ wd.cell? ⟨gr, j * 2, none⟩ = some (.string tx) ∧ wd.cell? ⟨gr, j * 2 + 1, none⟩ = some (.int .i64 cx) ∧ wd.heap[q]? = some (.cells #[.string tx, .int .i64 cx] 47 (0, 0))) := ⟨hwd ▸ ⟨hbx, a0, a1, HQ.out.1⟩⟩
      have HD : Aside0 (Below w0.heap.size w0 wd) := ⟨by rw [← hwd]; exact below_drew HQ.out.2⟩
      clear a0 a1 hbx q0 hat HQ
      refine St.steadyR (n := 13) (by kernel_rfl) ([] :: [(0, 35)] :: [(1, 36)] :: [(2, 37)] :: [(2, 37), (3, 38)] :: [(2, 37), (4, 39)] :: [(2, 37), (5, 40)] :: [(2, 37)] :: [(2, 37), (6, 41), (7, 42)] :: [(2, 37), (8, 43)] :: [(2, 37)] :: [(2, 37), (9, 44), (10, 45)] :: [(2, 37), (11, 46)] :: []) (some 35 :: some 36 :: some 37 :: some 38 :: some 39 :: some 40 :: some 41 :: some 42 :: some 43 :: some 44 :: some 45 :: some 46 :: some 47 :: []) (by kernel_rfl) ((St.eqT ?c7_0x11) :: (St.eqT ?c7_1x11) :: (St.eqT ?c7_2x11) :: (St.eqT ?c7_3x11) :: (St.eqT ?c7_4x11) :: (St.eqT ?c7_5x11) :: (St.eqT ?c7_6x11) :: (St.eqT ?c7_7x11) :: (St.eqT ?c7_8x11) :: (St.eqT (.agg #[.string tx, .int .i64 cx])) :: (St.eqT (.agg #[.string tx, .int .i64 cx])) :: (St.eqT (.bool false)) :: (St.eqT (.bool false)) :: []) rfl (by rfl) (fun w' => w' = wd) (fun w w' => w = w') ?hst ?h0 ?hB ?hop ?hend
      case hop =>
        refine ⟨?_, ?_, ?_, ?_, ?_, ?_, ?_, ?_, ?_, ?_, ?_, ?_, ?_, trivial⟩
        · intro w hB
          simp only [St.withD]
          refine St.ob_value (v := ?_) (w' := w) (by rfl) ?_ ⟨rfl, ?_⟩
          rotate_left
          · go_simp
            with_reducible rfl
          · rfl
        · intro w hB; rintro _ ⟨_, rfl⟩
          simp only [St.withD, List.nil_append, List.cons_append, Act.put, List.setIfInBounds_toArray, List.set_cons_zero, List.set_cons_succ]
          refine St.ob_value (v := ?_) (w' := w) (by rfl) ?_ ⟨rfl, ?_⟩
          rotate_left
          · go_simp
            with_reducible rfl
          · rfl
        · intro w hB; rintro _ ⟨_, rfl⟩
          simp only [St.withD, List.nil_append, List.cons_append, Act.put, List.setIfInBounds_toArray, List.set_cons_zero, List.set_cons_succ]
          refine St.ob_value (v := ?_) (w' := w) (by rfl) ?_ ⟨rfl, ?_⟩
          rotate_left
          · go_simp
            with_reducible rfl
          · rfl
        · intro w hB; rintro _ ⟨_, rfl⟩
          simp only [St.withD, List.nil_append, List.cons_append, Act.put, List.setIfInBounds_toArray, List.set_cons_zero, List.set_cons_succ]
          refine St.ob_value (v := ?_) (w' := w) (by rfl) ?_ ⟨rfl, ?_⟩
          rotate_left
          · go_simp
            with_reducible rfl
          · rfl
        · intro w hB; rintro _ ⟨_, rfl⟩ _ ⟨_, rfl⟩
          simp only [St.withD, List.nil_append, List.cons_append, Act.put, List.setIfInBounds_toArray, List.set_cons_zero, List.set_cons_succ]
          refine St.ob_value (v := ?_) (w' := w) (by rfl) ?_ ⟨rfl, ?_⟩
          rotate_left
          · go_simp
            with_reducible rfl
          · rfl
        · intro w hB; rintro _ ⟨_, rfl⟩ _ ⟨_, rfl⟩
          simp only [St.withD, List.nil_append, List.cons_append, Act.put, List.setIfInBounds_toArray, List.set_cons_zero, List.set_cons_succ]
          refine St.ob_value (v := ?_) (w' := w) (by rfl) ?_ ⟨rfl, ?_⟩
          rotate_left
          · go_simp
            with_reducible rfl
          · rfl
        · intro w hB; rintro _ ⟨_, rfl⟩ _ ⟨_, rfl⟩
          simp only [St.withD, List.nil_append, List.cons_append, Act.put, List.setIfInBounds_toArray, List.set_cons_zero, List.set_cons_succ]
          have hs := HS.out
          rw [← hB] at hs
          have c1 : w.cell? ⟨b, 1, none⟩ = some (.slice (some ⟨gr, 0, none⟩) m cr) := (blk_cell hs.1 1).trans rfl
          have a0 := hs.2.1
          have a1 := hs.2.2.1
          have q0 : w.cell? ⟨q, 0, none⟩ = some (.string tx) := (blk_cell hs.2.2.2 0).trans rfl
          have q1 : w.cell? ⟨q, 1, none⟩ = some (.int .i64 cx) := (blk_cell hs.2.2.2 1).trans rfl
          clear hB hs
          refine St.ob_value (v := ?_) (w' := w) (by rfl) ?_ ⟨rfl, ?_⟩
          rotate_left
          · go_simp
            with_reducible rfl
          · rfl
        · intro w hB; rintro _ ⟨_, rfl⟩
          simp only [St.withD, List.nil_append, List.cons_append, Act.put, List.setIfInBounds_toArray, List.set_cons_zero, List.set_cons_succ]
          refine St.ob_value (v := ?_) (w' := w) (by rfl) ?_ ⟨rfl, ?_⟩
          rotate_left
          · go_simp
            with_reducible rfl
          · rfl
        · intro w hB; rintro _ ⟨_, rfl⟩ _ ⟨_, rfl⟩ _ ⟨_, rfl⟩
          simp only [St.withD, List.nil_append, List.cons_append, Act.put, List.setIfInBounds_toArray, List.set_cons_zero, List.set_cons_succ]
          refine St.ob_value (v := ?_) (w' := w) (by rfl) ?_ ⟨rfl, ?_⟩
          rotate_left
          · go_simp
            with_reducible rfl
          · rfl
        · intro w hB; rintro _ ⟨_, rfl⟩ _ ⟨_, rfl⟩
          simp only [St.withD, List.nil_append, List.cons_append, Act.put, List.setIfInBounds_toArray, List.set_cons_zero, List.set_cons_succ]
          have hs := HS.out
          rw [← hB] at hs
          have c1 : w.cell? ⟨b, 1, none⟩ = some (.slice (some ⟨gr, 0, none⟩) m cr) := (blk_cell hs.1 1).trans rfl
          have a0 := hs.2.1
          have a1 := hs.2.2.1
          have q0 : w.cell? ⟨q, 0, none⟩ = some (.string tx) := (blk_cell hs.2.2.2 0).trans rfl
          have q1 : w.cell? ⟨q, 1, none⟩ = some (.int .i64 cx) := (blk_cell hs.2.2.2 1).trans rfl
          clear hB hs
          refine St.ob_value (v := ?_) (w' := w) (by rfl) ?_ ⟨rfl, ?_⟩
          rotate_left
          · go_simp
            with_reducible rfl
          · rfl
        · intro w hB; rintro _ ⟨_, rfl⟩
          simp only [St.withD, List.nil_append, List.cons_append, Act.put, List.setIfInBounds_toArray, List.set_cons_zero, List.set_cons_succ]
          have hs := HS.out
          rw [← hB] at hs
          have c1 : w.cell? ⟨b, 1, none⟩ = some (.slice (some ⟨gr, 0, none⟩) m cr) := (blk_cell hs.1 1).trans rfl
          have a0 := hs.2.1
          have a1 := hs.2.2.1
          have q0 : w.cell? ⟨q, 0, none⟩ = some (.string tx) := (blk_cell hs.2.2.2 0).trans rfl
          have q1 : w.cell? ⟨q, 1, none⟩ = some (.int .i64 cx) := (blk_cell hs.2.2.2 1).trans rfl
          clear hB hs
          refine St.ob_value (v := ?_) (w' := w) (by rfl) ?_ ⟨rfl, ?_⟩
          rotate_left
          · go_simp
            with_reducible rfl
          · rfl
        · intro w hB; rintro _ ⟨_, rfl⟩ _ ⟨_, rfl⟩ _ ⟨_, rfl⟩
          simp only [St.withD, List.nil_append, List.cons_append, Act.put, List.setIfInBounds_toArray, List.set_cons_zero, List.set_cons_succ]
          clear hB
          have hne := ritem_ne ⟨tx, cx⟩ w
          refine St.ob_value (v := .bool false) (w' := w) (by rfl) ?_ ⟨rfl, rfl⟩
          go_simp
        · intro w hB; rintro _ ⟨_, rfl⟩ _ ⟨_, rfl⟩
          simp only [St.withD, List.nil_append, List.cons_append, Act.put, List.setIfInBounds_toArray, List.set_cons_zero, List.set_cons_succ]
          refine St.ob_value (v := ?_) (w' := w) (by rfl) ?_ ⟨rfl, ?_⟩
          rotate_left
          · go_simp
            with_reducible rfl
          · rfl
      case hst => exact ⟨St.eqT_st, St.eqT_st, St.eqT_st, St.eqT_st, St.eqT_st, St.eqT_st, St.eqT_st, St.eqT_st, St.eqT_st, St.eqT_st, St.eqT_st, St.eqT_st, St.eqT_st, trivial⟩
      case h0 => exact hwd
      case hB => exact fun w w' h e => e ▸ h
      case hend =>
        intro w hB
        rintro _ rfl _ rfl _ rfl _ rfl _ rfl _ rfl _ rfl _ rfl _ rfl _ rfl _ rfl _ rfl _ rfl
        simp only [List.map_cons, List.map_nil, List.nil_append, List.cons_append, List.getD_cons_zero, List.getD_cons_succ, Act.put, List.setIfInBounds_toArray, List.set_cons_zero, List.set_cons_succ]
        rw [St.withE_nil]
        rw [hB]
        clear hB
        have k1 : wd.cell? ⟨b, 1, none⟩ = some (.slice (some ⟨gr, 0, none⟩) m cr) := (blk_cell HS.out.1 1).trans rfl
        go_wp2_with fail
        clear k1
        obtain ⟨gk0, hgk0⟩ : ∃ gk0, gk = gk0 := ⟨_, rfl⟩
        have HG := Aside0.mk hgk0
        clear hgk0
        go_loopg [10, 53] m (fun d x10 x53 wr => ∃ (j2 : Nat), Aside0 (j2 + d = m) ∧ x10 = .int .i64 ((L.take j2).countP (fun y => ilt y ⟨tx, cx⟩) : Nat) ∧ x53 = .int .i64 j2 ∧ Aside0 (Below wd.heap.size wd wr))
        case atStart => exact ⟨0, ⟨by omega⟩, by simp, rfl, ⟨Below.refl _ _⟩⟩
        case round =>
          obtain ⟨j2, HJ, rfl, rfl, HWI⟩ := hrel
          obtain ⟨ct, hct⟩ : ∃ ct, (L.take j2).countP (fun y => ilt y ⟨tx, cx⟩) = ct := ⟨_, rfl⟩
          rw [hct]
          have hct2 : ct ≤ 1000 := by
            rw [← hct]
            exact Nat.le_trans List.countP_le_length (by rw [List.length_take]; have := H.out.2.2.2.1; omega)
          by_cases hlt2 : j2 < m
          · have hli2 : (j2 : Int) < m := by omega
            have hj2 : j2 < L.length := by rw [H.out.2.1]; exact hlt2
            have hcs := cnt_step (fun y => ilt y ⟨tx, cx⟩) L j2 hj2
            rw [hct] at hcs
            obtain ⟨gr2, e2, a0, a1, _⟩ := own_item (H.out.1.below (below_step HD.out HWI.out)).row j2 hj2
            cases e2
            obtain ⟨y, hy⟩ : ∃ y, L.getD j2 ez = y := ⟨_, rfl⟩
            rw [hy] at a0 a1 hcs
            obtain ⟨ty, cy⟩ := y
            simp only at a0 a1 hcs
            have hbq := blk_below HS.out.2.2.2 HWI.out
            have hbq2 := blk_below hbq (below_alloc (Below.refl _ wr) (.cells #[.string ty, .int .i64 cy] 37))
            have q0 := (blk_cell hbq2 0).trans rfl
            have q1 := (blk_cell hbq2 1).trans rfl
            have HCS := Aside0.mk hcs
            have HB2 : Aside0 (Below wd.heap.size wd (wr.alloc (.cells #[.string ty, .int .i64 cy] 37))) := ⟨below_alloc HWI.out _⟩
            clear hcs hy hbq hbq2 hj2 hct
            go_wp2_with fail
            refine (before_any ⟨ty, cy⟩ ⟨tx, cx⟩ _).mono ?_
            rintro e w3 ⟨rfl, hb3⟩
            have HB3 : Aside0 (Below wd.heap.size wd w3) := ⟨below_step HB2.out hb3⟩
            clear hb3 HB2 HWI
            cases hil : ilt ⟨ty, cy⟩ ⟨tx, cx⟩
            · have HC2 : Aside0 ((L.take (j2 + 1)).countP (fun y => ilt y ⟨tx, cx⟩) = ct) := ⟨by rw [HCS.out, hil]; rfl⟩
              clear hil
              go_wp2
              go_roundg (gk - 1)
              case measure => have := HJ.out; omega
              case rel => exact ⟨j2 + 1, ⟨by have := HJ.out; omega⟩, by rw [HC2.out], by go_num, HB3⟩
            · have HC2 : Aside0 ((L.take (j2 + 1)).countP (fun y => ilt y ⟨tx, cx⟩) = ct + 1) := ⟨by rw [HCS.out, hil]; rfl⟩
              clear hil
              go_wp2
              go_roundg (gk - 1)
              case measure => have := HJ.out; omega
              case rel => exact ⟨j2 + 1, ⟨by have := HJ.out; omega⟩, by rw [HC2.out]; go_num, by go_num, HB3⟩
          · have hjm3 : j2 = m := by have := HJ.out; omega
            subst hjm3
            have htk : L.take j2 = L := List.take_of_length_le (Nat.le_of_eq H.out.2.1)
            have hci : ct = i := by rw [← hct, htk]; exact HX.out.2.2
            subst hci
            have hjj : ¬ (j2 : Int) < j2 := by omega
            have hcc : ((ct : Int) != ct) = false := by simp
            clear hlt2 htk hct
            go_wp2
            go_roundg (gk0 - 1)
            case measure => have := HI.out; have := HG.out; omega
            case rel => exact ⟨ct + 1, ⟨by have := HI.out; have := HG.out; omega⟩, by go_num, ⟨below_step HD.out HWI.out⟩⟩
    · have hin : i = n := by have := HI.out; omega
      subst hin
      have hii : ¬ (i : Int) < i := by omega
      go_wp2
      go_ret
      exact ⟨rfl, HW.out⟩
end
end Go.Proofs.Ytfijbhacobjjgah
