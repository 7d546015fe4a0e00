/- An entry is put behind the others. -/
import Derived.Test.YtfijbhacobjjgagUpA
namespace Go.Proofs.Ytfijbhacobjjgag
open Go.RowKit Go.Proofs.YtfijbhacobjjgagW.PrintWords Go.Proofs.YtfijbhacobjjgagW.PrintLast Go.Proofs.YtfijbhacobjjgagW.PrintMore Go.Proofs.Ytfijbhacobjjgag.Fr
set_option linter.unusedVariables false
set_option linter.unusedSimpArgs false
attribute [local go_sem] max2_int min2_int max_two min_two

open Pl Hp
theorem infoEz : (Try.prog.info? 57).map (fun i => (i.zero, i.size, i.bytes)) = some (some (.agg #[.int .i64 0, .int .i64 0, .int .i64 0, .int .i64 0, .int .i64 0, .bool false, .string ByteArray.empty]), 7, 64) := by kernel_rfl
theorem ents_snoc (l : List E) (x : E) : ents l ++ enc x = ents (l ++ [x]) := by simp [ents]
theorem ap_ent {w : World} {ty : TypeId} {B : Nat} {v : Value} {l : List E} {x : E} {k : Nat} (HO : w.ownsRow B 57 7 v l.length (ents l)) (hk : w.heap[k]? = some (.cells (enc x).toArray 57 (0, 0))) (hbase : B ≤ w.heap.size) (hl : l.length ≤ 100000) :
    ∃ v1 w1, (Builtin.append_ #[50, 50] ty #[v, .slice (some ⟨k, 0, none⟩) 1 1]).run Try.prog w = .ok v1 w1 ∧ w1.ownsRow B 57 7 v1 (l ++ [x]).length (ents (l ++ [x])) ∧ w.grownBy w1 v.ownBlock ∧ (v1.ownBlock = v.ownBlock ∨ v1.ownBlock = some w.heap.size) := by
  obtain ⟨i0, hi, hzz⟩ := Option.map_eq_some_iff.1 infoEz
  simp only [Prod.mk.injEq] at hzz
  obtain ⟨hz0, hz1, hz2⟩ := hzz
  have hu : Try.prog.underlying 50 = some (.slice 57) := Try.underlying50
  obtain ⟨v1, w1, a, b, c, _, d⟩ := run_append_own_at w B 50 ty 57 i0 _ 7 64 hu hi hz0 hz1 hz2 (by rfl) (by omega) v l.length (ents l) HO ⟨k, 0, none⟩ 1 1 (enc x) rfl (World.news_of_block (cs := (enc x).toArray) (t := 57) (fr := (0, 0)) hk) (by intro q hq; simp only [enc, List.mem_cons, List.not_mem_nil, or_false] at hq; rcases hq with rfl | rfl | rfl | rfl | rfl | rfl | rfl <;> rfl) (by simp only [maxLen]; omega) (by omega) hbase
  refine ⟨v1, w1, a, ?_, c, d⟩
  rw [ents_snoc] at b
  rw [List.length_append, List.length_singleton]
  exact b
theorem own_some {w : World} {B : Nat} {v : Value} {l : List E} {x : E} (h : w.ownsRow B 57 7 v (l ++ [x]).length (ents (l ++ [x]))) : ∃ g c, v = .slice (some ⟨g, 0, none⟩) (l ++ [x]).length c ∧ B ≤ g := by
  rcases h.2 with ⟨_, h0⟩ | ⟨g, cap, cur, rfl, hb, _⟩
  · simp at h0
  · exact ⟨g, cap, rfl, hb⟩
theorem assert_ok (x : E) (w : World) : (Instr.typeAssert (.iface 57 (.agg #[.int .i64 x.t, .int .i64 x.o, .int .i64 x.a.k, .int .i64 x.a.nd, .int .i64 x.a.n, .bool x.a.up, .string x.a.s])) 20 57 true).run Try.prog w = .ok (.tuple #[.agg #[.int .i64 x.t, .int .i64 x.o, .int .i64 x.a.k, .int .i64 x.a.nd, .int .i64 x.a.n, .bool x.a.up, .string x.a.s], .bool true]) w := by kernel_rfl
def PushPost (B s : Nat) (v p q : Value) (t : TypeId) (l : List E) (x : E) (W : World) (w' : World) : Prop := Ch (fun k => k = s ∨ some k = v.ownBlock) W w' ∧ ∃ g1 c1, w'.heap[s]? = some (.cells #[.slice (some ⟨g1, 0, none⟩) (l ++ [x]).length c1, p, q] t (0, 0)) ∧ HR B w' g1 c1 (l ++ [x]) ∧ s ≠ g1 ∧ (some g1 = v.ownBlock ∨ W.heap.size ≤ g1)
theorem push_any (B s : Nat) (v p q : Value) (t : TypeId) (l : List E) (x : E) (w0 : World) (hb : w0.heap[s]? = some (.cells #[v, p, q] t (0, 0))) (hr : w0.ownsRow B 57 7 v l.length (ents l)) (hne : some s ≠ v.ownBlock) (hB : B ≤ w0.heap.size) (hl : l.length ≤ 100000) :
    Calls Try.prog 52 #[.pointer (some ⟨s, 0, none⟩), .iface 57 (.agg (enc x).toArray)] w0 fun e w' => e = .returned (.tuple #[]) ∧ PushPost B s v p q t l x w0 w' := by
  have HNE := Aside0.mk hne
  have HLL := Aside0.mk hl
  have HB0 := Aside0.mk (And.intro hb hr)
  have hta := assert_ok x
  clear hb hr hne
  go_enter Try.func52, Try.ntmps52
  unfold enc
  go_wp2
  have hal : Below w0.heap.size w0 (w0.alloc (.cells (enc x).toArray 57)) := below_alloc (Below.refl _ _) _
  have HBX : Aside0 ((w0.alloc (.cells (enc x).toArray 57)).heap[s]? = some (.cells #[v, p, q] t (0, 0))) := ⟨blk_below HB0.out.1 hal⟩
  have HRO : Aside0 ((w0.alloc (.cells (enc x).toArray 57)).ownsRow B 57 7 v l.length (ents l)) := ⟨pw_own_below HB0.out.2 hal⟩
  have HX4 : Aside0 ((w0.alloc (.cells (enc x).toArray 57)).heap[w0.heap.size]? = some (.cells (enc x).toArray 57 (0, 0))) := ⟨blk_new w0 _⟩
  have HXS : Aside0 (w0.heap.size ≠ s) := ⟨fun e => by have := blk_lt HB0.out.1; omega⟩
  have HXV : Aside0 (some w0.heap.size ≠ v.ownBlock) := ⟨fun e => by have := own_lt HB0.out.2 _ e.symm; omega⟩
  have HBS : Aside0 (B ≤ (w0.alloc (.cells (enc x).toArray 57)).heap.size) := ⟨Nat.le_trans hB hal.size⟩
  have HVL : Aside0 (∀ k, v.ownBlock = some k → k < (w0.alloc (.cells (enc x).toArray 57)).heap.size) := ⟨fun k e => Nat.lt_of_lt_of_le (own_lt HB0.out.2 k e) hal.size⟩
  have HSL : Aside0 (s < (w0.alloc (.cells (enc x).toArray 57)).heap.size) := ⟨blk_lt HBX.out⟩
  have HAL := Aside0.mk hal
  clear hal hta HB0 hB
  unfold enc at HBX HRO HX4 HBS HVL HSL HAL
  generalize w0.alloc (.cells #[.int .i64 x.t, .int .i64 x.o, .int .i64 x.a.k, .int .i64 x.a.nd, .int .i64 x.a.n, .bool x.a.up, .string x.a.s] 57) = W at HBX HRO HX4 HBS HVL HSL HAL ⊢
  generalize hx4 : w0.heap.size = x4 at HX4 HXS HXV ⊢
  clear hx4
  rw [show [Value.int .i64 x.t, .int .i64 x.o, .int .i64 x.a.k, .int .i64 x.a.nd, .int .i64 x.a.n, .bool x.a.up, .string x.a.s].toArray = (enc x).toArray from rfl] at HX4
  refine St.steadyG (n := 9) (by kernel_rfl) ([] :: [] :: [(1, 13)] :: [(2, 14)] :: [] :: [(4, 16)] :: [(3, 15), (5, 17)] :: [(0, 12)] :: [(6, 18), (7, 19)] :: []) (some 12 :: some 13 :: some 14 :: some 15 :: some 16 :: some 17 :: some 18 :: some 19 :: none :: []) (by kernel_rfl) ((St.eqT ?c2_0x3) :: (St.eqT ?c2_1x3) :: (St.eqT ?c2_2x3) :: (St.eqT v) :: (St.eqT (.agg (enc x).toArray)) :: (fun _ u w => ∃ b, u = .slice (some ⟨b, 0, none⟩) 1 1 ∧ W.heap.size ≤ b ∧ w.heap[b]? = some (.cells (enc x).toArray 57 (0, 0))) :: (fun _ u w => ∃ g1 c1, u = .slice (some ⟨g1, 0, none⟩) (l ++ [x]).length c1 ∧ HR B w g1 c1 (l ++ [x]) ∧ s ≠ g1 ∧ (some g1 = v.ownBlock ∨ W.heap.size ≤ g1)) :: (St.eqT ?c2_7x3) :: (St.eqT undef) :: []) rfl (by rfl) (fun fl w' => Ch (fun k => k = s ∨ some k = v.ownBlock) W w' ∧ (fl 8 = false → w'.heap[s]? = some (.cells #[v, p, q] t (0, 0))) ∧ (fl 6 = false → w'.ownsRow B 57 7 v l.length (ents l)) ∧ (fl 8 = true → ∃ g1 c1, w'.heap[s]? = some (.cells #[.slice (some ⟨g1, 0, none⟩) (l ++ [x]).length c1, p, q] t (0, 0)) ∧ HR B w' g1 c1 (l ++ [x]) ∧ s ≠ g1 ∧ (some g1 = v.ownBlock ∨ W.heap.size ≤ g1))) (fun i wa wb => (i = 5 → Below wa.heap.size wa wb) ∧ (i = 6 → wa.grownBy wb v.ownBlock) ∧ (i = 8 → ∃ g1 c1, wb = wa.setCell ⟨s, 0, none⟩ (.slice (some ⟨g1, 0, none⟩) (l ++ [x]).length c1) ∧ HR B wa g1 c1 (l ++ [x]) ∧ s ≠ g1 ∧ (some g1 = v.ownBlock ∨ W.heap.size ≤ g1)) ∧ (i ≠ 5 → i ≠ 6 → i ≠ 8 → wa = wb)) ?hst ?h0 (fun i w' => ∃ f6 f8, (Ch (fun k => k = s ∨ some k = v.ownBlock) W w' ∧ (f8 = false → w'.heap[s]? = some (.cells #[v, p, q] t (0, 0))) ∧ (f6 = false → w'.ownsRow B 57 7 v l.length (ents l)) ∧ (f8 = true → ∃ g1 c1, w'.heap[s]? = some (.cells #[.slice (some ⟨g1, 0, none⟩) (l ++ [x]).length c1, p, q] t (0, 0)) ∧ HR B w' g1 c1 (l ++ [x]) ∧ s ≠ g1 ∧ (some g1 = v.ownBlock ∨ W.heap.size ≤ g1))) ∧ ((i = 3 ∨ i = 6 ∨ i = 8) → f8 = false) ∧ (i = 6 → f6 = false)) ?hB ?hG ?hop ?hend
  case hop =>
    refine ⟨?_, ?_, ?_, ?_, ?_, ?_, ?_, ?_, ?_, trivial⟩
    · intro w hB
      simp only [St.withD]
      refine St.ob_value (v := ?_) (w' := w) (by rfl) ?_ ⟨⟨fun e => absurd e (by decide), fun e => absurd e (by decide), fun e => absurd e (by decide), fun _ _ _ => rfl⟩, ?_⟩
      rotate_left
      · go_simp
        with_reducible rfl
      · rfl
    · intro w hB
      simp only [St.withD]
      refine St.ob_value (v := ?_) (w' := w) (by rfl) ?_ ⟨⟨fun e => absurd e (by decide), fun e => absurd e (by decide), fun e => absurd e (by decide), fun _ _ _ => rfl⟩, ?_⟩
      rotate_left
      · go_simp
        with_reducible rfl
      · rfl
    · intro w hB; rintro _ ⟨_, rfl⟩
      simp only [St.withD, List.nil_append, List.cons_append, Act.put, List.setIfInBounds_toArray, List.set_cons_zero, List.set_cons_succ]
      refine St.ob_value (v := ?_) (w' := w) (by rfl) ?_ ⟨⟨fun e => absurd e (by decide), fun e => absurd e (by decide), fun e => absurd e (by decide), fun _ _ _ => rfl⟩, ?_⟩
      rotate_left
      · go_simp
        with_reducible rfl
      · rfl
    · intro w hB; rintro _ ⟨_, rfl⟩
      simp only [St.withD, List.nil_append, List.cons_append, Act.put, List.setIfInBounds_toArray, List.set_cons_zero, List.set_cons_succ]
      obtain ⟨f6, f8, hG, h8, _⟩ := hB
      have e := h8 (by decide)
      have c0 : w.cell? ⟨s, 0, none⟩ = some v := (blk_cell (hG.2.1 e) 0).trans rfl
      refine St.ob_value (v := v) (w' := w) (by rfl) ?_ ⟨⟨fun e => absurd e (by decide), fun e => absurd e (by decide), fun e => absurd e (by decide), fun _ _ _ => rfl⟩, rfl⟩
      clear hG
      go_simp
    · intro w hB
      simp only [St.withD]
      obtain ⟨f6, f8, hG, _, _⟩ := hB
      have hx := hG.1.blk HX4.out (by rintro (e | e); exact HXS.out e; exact HXV.out e)
      have b0 : w.cell? ⟨x4, 0, none⟩ = some (.int .i64 x.t) := (blk_cell hx 0).trans rfl
      have b1 : w.cell? ⟨x4, 1, none⟩ = some (.int .i64 x.o) := (blk_cell hx 1).trans rfl
      have b2 : w.cell? ⟨x4, 2, none⟩ = some (.int .i64 x.a.k) := (blk_cell hx 2).trans rfl
      have b3 : w.cell? ⟨x4, 3, none⟩ = some (.int .i64 x.a.nd) := (blk_cell hx 3).trans rfl
      have b4 : w.cell? ⟨x4, 4, none⟩ = some (.int .i64 x.a.n) := (blk_cell hx 4).trans rfl
      have b5 : w.cell? ⟨x4, 5, none⟩ = some (.bool x.a.up) := (blk_cell hx 5).trans rfl
      have b6 : w.cell? ⟨x4, 6, none⟩ = some (.string x.a.s) := (blk_cell hx 6).trans rfl
      refine St.ob_value (v := .agg (enc x).toArray) (w' := w) (by rfl) ?_ ⟨⟨fun e => absurd e (by decide), fun e => absurd e (by decide), fun e => absurd e (by decide), fun _ _ _ => rfl⟩, rfl⟩
      unfold enc
      go_simp
    · intro w hB; rintro _ ⟨_, rfl⟩
      simp only [St.withD, List.nil_append, List.cons_append, Act.put, List.setIfInBounds_toArray, List.set_cons_zero, List.set_cons_succ]
      obtain ⟨f6, f8, hG, _, _⟩ := hB
      refine St.ob_value (v := .slice (some ⟨w.heap.size, 0, none⟩) 1 1) (w' := w.alloc (.cells (enc x).toArray 57)) (by rfl) ?_ ⟨⟨fun _ => below_alloc (Below.refl _ _) _, fun e => absurd e (by decide), fun e => absurd e (by decide), fun e => absurd rfl e⟩, w.heap.size, rfl, hG.1.size, blk_new w _⟩
      unfold enc
      go_simp
    · intro w hB; rintro v3 ⟨ds3, ht3⟩ v5 ⟨ds5, ht5⟩
      simp only [St.withD, List.nil_append, List.cons_append, Act.put, List.setIfInBounds_toArray, List.set_cons_zero, List.set_cons_succ]
      have e3 : v3 = v := ht3
      rw [e3]
      obtain ⟨f6, f8, hG, h8, h6⟩ := hB
      obtain ⟨b, rfl, hb, hbk⟩ := ht5
      have e8 := h8 (by decide)
      have e6 := h6 rfl
      obtain ⟨v1, w1, hrun, hown, hgr, hat⟩ := ap_ent (ty := _) (hG.2.2.1 e6) hbk (Nat.le_trans HBS.out hG.1.size) HLL.out
      have hlt := blk_lt (hG.2.1 e8)
      obtain ⟨g1, c1, rfl, hg1⟩ := own_some hown
      have hat2 : some g1 = v.ownBlock ∨ W.heap.size ≤ g1 := by
        rcases hat with e | e
        · exact .inl e
        · have hg := hG.1.size; simp only [Value.ownBlock, Option.some.injEq] at e; exact .inr (by omega)
      have hne : s ≠ g1 := fun e => by
        rcases hat with e2 | e2
        · exact HNE.out (by rw [e]; exact e2)
        · simp only [Value.ownBlock, Option.some.injEq] at e2; omega
      exact St.ob_value (v := .slice (some ⟨g1, 0, none⟩) (l ++ [x]).length c1) (w' := w1) (by rfl) (append_op rfl (by rfl) (by rfl) hrun) ⟨⟨fun e => absurd e (by decide), fun _ => hgr, fun e => absurd e (by decide), fun _ e => absurd rfl e⟩, g1, c1, rfl, hown, hne, hat2⟩
    · intro w hB; rintro _ ⟨_, rfl⟩
      simp only [St.withD, List.nil_append, List.cons_append, Act.put, List.setIfInBounds_toArray, List.set_cons_zero, List.set_cons_succ]
      refine St.ob_value (v := ?_) (w' := w) (by rfl) ?_ ⟨⟨fun e => absurd e (by decide), fun e => absurd e (by decide), fun e => absurd e (by decide), fun _ _ _ => rfl⟩, ?_⟩
      rotate_left
      · go_simp
        with_reducible rfl
      · rfl
    · intro w hB; rintro v6 ⟨ds6, ht6⟩ _ ⟨_, rfl⟩
      simp only [St.withD, List.nil_append, List.cons_append, Act.put, List.setIfInBounds_toArray, List.set_cons_zero, List.set_cons_succ]
      obtain ⟨f6, f8, hG, h8, _⟩ := hB
      obtain ⟨g1, c1, rfl, y2, y3, y4⟩ := ht6
      have e8 := h8 (by decide)
      have k0 : w.cell? ⟨s, 0, none⟩ = some v := (blk_cell (hG.2.1 e8) 0).trans rfl
      have f0 := blk_frozen (hG.2.1 e8) 0
      refine St.ob_skip (w' := w.setCell ⟨s, 0, none⟩ (.slice (some ⟨g1, 0, none⟩) (l ++ [x]).length c1)) (by rfl) ?_ ⟨⟨fun e => absurd e (by decide), fun e => absurd e (by decide), fun _ => ⟨g1, c1, rfl, y2, y3, y4⟩, fun _ _ e => absurd rfl e⟩, rfl⟩
      clear hG y2
      go_simp
  case hst =>
    intro i jx fl hi hj hfi hfj hcl dsx vx wa wb ht hR
    refine St.sts_get (Rel := fun jj wa wb => fl jj = true ∧ (fun i wa wb => (i = 5 → Below wa.heap.size wa wb) ∧ (i = 6 → wa.grownBy wb v.ownBlock) ∧ (i = 8 → ∃ g1 c1, wb = wa.setCell ⟨s, 0, none⟩ (.slice (some ⟨g1, 0, none⟩) (l ++ [x]).length c1) ∧ HR B wa g1 c1 (l ++ [x]) ∧ s ≠ g1 ∧ (some g1 = v.ownBlock ∨ W.heap.size ≤ g1)) ∧ (i ≠ 5 → i ≠ 6 → i ≠ 8 → wa = wb)) i wa wb) 0 _ jx (by simpa using hj) ?_ dsx vx wa wb ht ⟨by simpa using hfj, hR⟩
    refine ⟨St.eqT_st, St.eqT_st, St.eqT_st, St.eqT_st, St.eqT_st, ?_, ?_, St.eqT_st, St.eqT_st, trivial⟩
    · intro dsx vx wa wb h hR
      have hfj : fl 5 = true := hR.1
      have hR := hR.2
      obtain ⟨b, e1, hb, hbk⟩ := h
      refine ⟨b, e1, hb, ?_⟩
      by_cases i5 : i = 5
      · exact blk_below hbk (hR.1 i5)
      · by_cases i6 : i = 6
        · exact blk_grown hbk (hR.2.1 i6) (fun e => by have := HVL.out b e.symm; omega)
        · by_cases i8 : i = 8
          · obtain ⟨g1, c1, e, _⟩ := hR.2.2.1 i8
            subst e
            exact blk_far hbk (p := ⟨s, 0, none⟩) (fun e => by have := HSL.out; have e2 : b = s := e; omega) _
          · have e := hR.2.2.2 i5 i6 i8
            subst e
            exact hbk
    · intro dsx vx wa wb h hR
      have hfj : fl 6 = true := hR.1
      have hR := hR.2
      obtain ⟨g1, c1, e1, y2, y3, y4⟩ := h
      refine ⟨g1, c1, e1, ?_, y3, y4⟩
      by_cases i5 : i = 5
      · exact y2.below (hR.1 i5)
      · by_cases i6 : i = 6
        · subst i6
          rw [hfi] at hfj
          cases hfj
        · by_cases i8 : i = 8
          · obtain ⟨g2, c2, e, _⟩ := hR.2.2.1 i8
            subst e
            exact own_setCell y2 (fun e => y3 (by cases e; rfl)) _
          · have e := hR.2.2.2 i5 i6 i8
            subst e
            exact y2
  case h0 => exact ⟨Ch.of_below (below_drew1 (Below.refl _ _)), fun _ => HBX.out, fun _ => HRO.out, fun e => by cases e⟩
  case hB => (
    intro k fl w' hk hfk hdone hcl hG
    refine ⟨_, _, hG, fun e => ?_, fun e => e ▸ hfk⟩
    rcases e with rfl | rfl | rfl
    · cases e : fl 8
      · rfl
      · have h6 := hcl 8 6 e (by kernel_rfl)
        have := hcl 6 3 h6 (by kernel_rfl); rw [hfk] at this; cases this
    · cases e : fl 8
      · rfl
      · have := hcl 8 6 e (by kernel_rfl); rw [hfk] at this; cases this
    · exact hfk)
  case hG => (
    intro k fl wa wb hk hfk hdone hcl hG hR
    obtain ⟨hc, hb, hr, hs⟩ := hG
    by_cases h5 : k = 5
    · subst h5
      have hbl := hR.1 rfl
      have a6 : St.upB fl 5 6 = fl 6 := by unfold St.upB; rw [if_neg (by decide)]
      have a8 : St.upB fl 5 8 = fl 8 := by unfold St.upB; rw [if_neg (by decide)]
      rw [a6, a8]
      exact ⟨hc.below_then hbl, fun e => blk_below (hb e) hbl, fun e => pw_own_below (hr e) hbl, fun e => by obtain ⟨g1, c1, y1, y2, y3, y4⟩ := hs e; exact ⟨g1, c1, blk_below y1 hbl, y2.below hbl, y3, y4⟩⟩
    · by_cases h6 : k = 6
      · subst h6
        have e8 : fl 8 = false := by
          cases e : fl 8
          · rfl
          · have := hcl 8 6 e (by kernel_rfl); rw [hfk] at this; cases this
        have hgr := hR.2.1 rfl
        have a6 : St.upB fl 6 6 = true := by unfold St.upB; rw [if_pos rfl]
        have a8 : St.upB fl 6 8 = fl 8 := by unfold St.upB; rw [if_neg (by decide)]
        rw [a6, a8, e8]
        refine ⟨hc.trans (Ch.grown hgr (fun k e => .inr e.symm)), fun _ => blk_grown (hb e8) hgr HNE.out, fun e => (by cases e), fun e => by cases e⟩
      · by_cases h8 : k = 8
        · subst h8
          have a6 : St.upB fl 8 6 = fl 6 := by unfold St.upB; rw [if_neg (by decide)]
          have a8 : St.upB fl 8 8 = true := by unfold St.upB; rw [if_pos rfl]
          have e6 : fl 6 = true := hdone 6 (by kernel_rfl)
          rw [a6, a8, e6]
          obtain ⟨g1, c1, e1, y2, y3, y4⟩ := hR.2.2.1 rfl
          subst e1
          exact ⟨hc.set (.inl rfl), fun e => (by cases e), fun e => (by cases e), fun _ => ⟨g1, c1, blk_put (hb hfk) 0 _ rfl, own_setCell y2 (fun e => y3 (by cases e; rfl)) _, y3, y4⟩⟩
        · have e := hR.2.2.2 h5 h6 h8
          subst e
          have a6 : St.upB fl k 6 = fl 6 := by unfold St.upB; rw [if_neg (Ne.symm h6)]
          have a8 : St.upB fl k 8 = fl 8 := by unfold St.upB; rw [if_neg (Ne.symm h8)]
          rw [a6, a8]
          exact ⟨hc, hb, hr, hs⟩)
  case hend =>
    intro fl w hall hB
    rintro _ rfl _ rfl _ rfl v3 ht3 _ rfl v5 ht5 v6 ht6 _ rfl _ rfl
    simp only [List.map_cons, List.map_nil, List.nil_append, List.cons_append, List.getD_cons_zero, List.getD_cons_succ, Act.put, List.setIfInBounds_toArray, List.set_cons_zero, List.set_cons_succ]
    rw [St.withE_nil]
    have h8 := hall 8 (by decide)
    rw [h8] at hB
    obtain ⟨hc, _, _, hs⟩ := hB
    have HF := Aside0.mk (And.intro hc (hs rfl))
    clear hc hs hall ht3 ht5 ht6
    go_wp2
    go_end0
    refine ⟨rfl, (Ch.of_below HAL.out).trans HF.out.1, ?_⟩
    obtain ⟨g1, c1, y1, y2, y3, y4⟩ := HF.out.2
    exact ⟨g1, c1, y1, y2, y3, y4.imp id (fun h => Nat.le_trans HAL.out.size h)⟩
end Go.Proofs.Ytfijbhacobjjgag
