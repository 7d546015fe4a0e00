/- The document's Add. -/
import Derived.Test.YtfijbhacobjjgahDocA
namespace Go.Proofs.Ytfijbhacobjjgah
open Go.RowKit Go.Proofs.YtfijbhacobjjgahW.PrintWords Go.Proofs.YtfijbhacobjjgahW.PrintLast Go.Proofs.YtfijbhacobjjgahW.PrintMore Go.Proofs.Ytfijbhacobjjgah.Fr
set_option linter.unusedVariables false
set_option linter.unusedSimpArgs false
attribute [local go_sem] max2_int min2_int max_two min_two

open Pl Hp
theorem bring_to {n lo hi r : Int} (h : brI n lo hi = r ∧ lo ≤ hi) (w : World) : Calls Try.prog 20 #[.int .i64 n, .int .i64 lo, .int .i64 hi] w fun e w' => e = .returned (.int .i64 r) ∧ w = w' := by
  rw [← h.1]; exact bring_any n lo hi h.2 w
theorem infoR : (Try.prog.info? 37).map (fun i => (i.zero, i.size, i.bytes)) = some (some (.agg #[.string ByteArray.empty, .int .i64 0]), 2, 24) := by kernel_rfl
theorem own_someR {w : World} {B n : Nat} {e : TypeId} {v : Value} {xs : List Value} (h : w.ownsRow B e 2 v (n + 1) xs) : ∃ g c, v = .slice (some ⟨g, 0, none⟩) (n + 1) c ∧ B ≤ g := by
  rcases h.2 with ⟨_, h0⟩ | ⟨g, cap, cur, rfl, hb, _⟩
  · omega
  · exact ⟨g, cap, rfl, hb⟩
theorem ents_cnt (L : List It) (i : Nat) (hi : i < L.length) (x : Int) : (ents L).set (i * 2 + 1) (.int .i64 x) = ents (L.set i ⟨(L.getD i ez).t, x⟩) := by
  induction L generalizing i with
  | nil => simp at hi
  | cons e r ih =>
    have hcons : ∀ e r, ents (e :: r) = .string e.t :: .int .i64 e.c :: ents r := fun _ _ => rfl
    cases i with
    | zero => rw [hcons]; rfl
    | succ i =>
      rw [hcons, show (i + 1) * 2 + 1 = (i * 2 + 1) + 1 + 1 by omega, List.set_cons_succ, List.set_cons_succ, ih i (by simpa using hi), List.set_cons_succ, hcons]
      rfl
theorem own_cnt {w : World} {B n c g : Nat} {e : TypeId} {L : List It} (h : w.ownsRow B e 2 (.slice (some ⟨g, 0, none⟩) n c) L.length (ents L)) (i : Nat) (hi : i < L.length) (x : Int) : (w.setCell ⟨g, i * 2 + 1, none⟩ (.int .i64 x)).ownsRow B e 2 (.slice (some ⟨g, 0, none⟩) n c) (L.set i ⟨(L.getD i ez).t, x⟩).length (ents (L.set i ⟨(L.getD i ez).t, x⟩)) := by
  obtain ⟨h1, h2 | ⟨g', cap, cur, e1, hb, hh, hn, hc, hs, ht⟩⟩ := h
  · cases h2.1
  · cases e1
    refine ⟨by rw [ents_len], .inr ⟨g, c, _, by rw [List.length_set], hb, blk_set hh _ _, by rw [List.length_set]; exact hn, hc, by simpa using hs, ?_⟩⟩
    rw [Array.toList_setIfInBounds, List.take_set, List.length_set, ht, ents_cnt L i hi x]
section
variable {B b room : Nat} {w w1 : World} {v : Value} {L : List It} {S : Nat → Prop}
def RAddPost (B b room : Nat) (v : Value) (L : List It) (s : ByteArray) (wt : Int) (W : World) (e : Ending) (w' : World) : Prop := ∃ v1, e = .returned (.bool (addL room s wt L).2) ∧ DT B w' b room v1 (addL room s wt L).1 ∧ Ch (fun i => i = b ∨ some i = v.ownBlock) W w' ∧ ∀ k, v1.ownBlock = some k → v.ownBlock = some k ∨ W.heap.size ≤ k
set_option maxRecDepth 100000 in
set_option maxHeartbeats 8000000 in
theorem radd_any (s : ByteArray) (wt : Int) (w : World) (h : DT B w b room v L) (hB : B ≤ w.heap.size) (hw : WL room L) (hr : room ≤ 1000) : Calls Try.prog 10 #[.pointer (some ⟨b, 0, none⟩), .string s, .int .i64 wt] w (RAddPost B b room v L s wt w) := by
  have hl : L.length ≤ 1000 := by have := hw.len; omega
  obtain ⟨A, c0, rfl, hlc⟩ := h.slice
  have HAT := Aside0.mk (at_any s w h hl)
  have hcb := hw.cnt s
  have H := Aside0.mk (And.intro h (And.intro hB hw))
  by_cases hp : pos s L < L.length
  · have hat : atI s L = (pos s L : Nat) := by unfold atI; rw [if_pos hp]
    have HAD : Aside0 (addL room s wt L = (L.set (pos s L) ⟨s, addC (cnt s L) wt⟩, true)) := ⟨by unfold addL; rw [if_pos hp]⟩
    have HPT : Aside0 ((L.getD (pos s L) ez).t = s) := ⟨pos_at s ez L hp⟩
    obtain ⟨g, rfl, _, a1, f1⟩ := own_item h.row (pos s L) hp
    have hct : (L.getD (pos s L) ez).c = cnt s L := by unfold cnt; rw [if_pos hp]; rfl
    rw [hct] at a1
    obtain ⟨cn, hcn⟩ : ∃ cn, cnt s L = cn := ⟨_, rfl⟩
    rw [hcn] at a1 hcb HAD
    obtain ⟨kk, hkk⟩ : ∃ kk, pos s L = kk := ⟨_, rfl⟩
    rw [hkk] at a1 f1 HAD HPT hp hat
    obtain ⟨n, hn⟩ : ∃ n, L.length = n := ⟨_, rfl⟩
    have hkn : kk < n := by omega
    have hknI : (kk : Int) < n := by omega
    have hk0 : (0 : Int) ≤ kk := by omega
    obtain ⟨cc, hcc⟩ : ∃ cc, addC cn wt = cc := ⟨_, rfl⟩
    have HCC : Aside0 (brI (cn + brI wt 0 1048576) 0 1099511627776 = cc ∧ (0 : Int) ≤ 1099511627776) := ⟨hcc, by decide⟩
    rw [hcc] at HAD
    have HBD : Aside0 (0 ≤ brI wt 0 1048576 ∧ brI wt 0 1048576 ≤ 1048576 ∧ 0 ≤ cn ∧ cn ≤ 1099511627776) := ⟨by unfold brI; omega, by unfold brI; omega, hcb.1, hcb.2⟩
    have hbx := h.box
    rw [hn] at hbx
    have HW0 := Aside0.mk (And.intro hbx (And.intro a1 f1))
    have HK := Aside0.mk (And.intro hp hn)
    clear h hB hw hl hlc hct hcn hkk hn hcc hcb hbx a1 f1 hp
    go_enter Try.func10, Try.ntmps10
    go_wp2_with fail
    refine HAT.out.mono ?_
    rintro e w1 ⟨rfl, rfl⟩
    rw [hat]
    go_upto_region 7 with fail
    go_wp2
    obtain ⟨wd, hwd⟩ : ∃ wd, w.drew = wd := ⟨_, rfl⟩
    have HS : Aside0 (wd.heap[b]? = some (.cells #[.int .i64 (room : Nat), .slice (some ⟨g, 0, none⟩) n c0] 40 (0, 0)) ∧ wd.cell? ⟨g, kk * 2 + 1, none⟩ = some (.int .i64 cn) ∧ wd.frozen? ⟨g, kk * 2 + 1, none⟩ = false) := ⟨hwd ▸ HW0.out⟩
    have FIN : Aside0 (RAddPost B b room (.slice (some ⟨g, 0, none⟩) L.length c0) L s wt w (.returned (.bool true)) (wd.setCell ⟨g, kk * 2 + 1, none⟩ (.int .i64 cc))) := ⟨by
      have hne : b ≠ g := fun e => H.out.1.ne (by rw [e]; rfl)
      have hrow : wd.ownsRow B 37 2 (.slice (some ⟨g, 0, none⟩) L.length c0) L.length (ents L) := by rw [← hwd]; exact H.out.1.row
      have ho := own_cnt hrow kk HK.out.1 cc
      rw [HPT.out] at ho
      refine ⟨.slice (some ⟨g, 0, none⟩) L.length c0, by rw [HAD.out], ⟨?_, by rw [HAD.out]; exact ho, H.out.1.ne, H.out.1.lo⟩, ?_, fun q e => .inl e⟩
      · have := blk_far HS.out.1 (p := ⟨g, kk * 2 + 1, none⟩) hne (.int .i64 cc)
        rw [← HK.out.2] at this
        exact this
      · rw [← hwd]; exact ((Ch.refl _ _).drew).set (.inr rfl)⟩
    clear HAT HW0 hat HAD HPT H HK
    refine St.steadyW (n := 20) (by kernel_rfl) ([] :: [(0, 40)] :: [(1, 41)] :: [(2, 42)] :: [] :: [] :: [(5, 45)] :: [(6, 46)] :: [(7, 47)] :: [] :: [(8, 48), (9, 49)] :: [(10, 50)] :: [(11, 51)] :: [] :: [(13, 53)] :: [(12, 52), (14, 54)] :: [(15, 55)] :: [(3, 43), (4, 44)] :: [(17, 57)] :: [(16, 56), (18, 58)] :: []) (some 40 :: some 41 :: some 42 :: some 43 :: some 44 :: some 45 :: some 46 :: some 47 :: some 48 :: some 49 :: some 50 :: some 51 :: some 52 :: some 53 :: some 54 :: some 55 :: some 56 :: some 57 :: some 58 :: none :: []) (by kernel_rfl) 19 (0 :: 0 :: 0 :: 0 :: 0 :: 0 :: 0 :: 0 :: 0 :: 0 :: 0 :: 0 :: 0 :: 0 :: 0 :: 0 :: 0 :: 0 :: 0 :: 1 :: []) (by kernel_rfl) rfl (by decide) ((St.eqT ?c7_0x7) :: (St.eqT ?c7_1x7) :: (St.eqT ?c7_2x7) :: (St.eqT ?c7_3x7) :: (St.eqT ?c7_4x7) :: (St.eqT ?c7_5x7) :: (St.eqT ?c7_6x7) :: (St.eqT ?c7_7x7) :: (St.eqT ?c7_8x7) :: (St.eqT ?c7_9x7) :: (St.eqT ?c7_10x7) :: (St.eqT ?c7_11x7) :: (St.eqT ?c7_12x7) :: (St.eqT ?c7_13x7) :: (St.eqT ?c7_14x7) :: (St.eqT (.int .i64 (cn + brI wt 0 1048576))) :: (St.eqT (.int .i64 cc)) :: (St.eqT ?c7_17x7) :: (St.eqT ?c7_18x7) :: (St.eqT undef) :: []) rfl (by rfl) (fun w' => w' = wd) (fun w w' => w = w') (fun w w' => w' = w.setCell ⟨g, kk * 2 + 1, none⟩ (.int .i64 cc)) (fun w' => w' = wd.setCell ⟨g, kk * 2 + 1, none⟩ (.int .i64 cc)) (fun w w' => w = w') ?hst ?h0 ?hB ?hC ?hop ?hend
    case hop =>
      refine ⟨?_, ?_, ?_, ?_, ?_, ?_, ?_, ?_, ?_, ?_, ?_, ?_, ?_, ?_, ?_, ?_, ?_, ?_, ?_, ?_, trivial⟩
      · intro w hB
        simp only [St.withD]
        refine St.ob_value (v := ?_) (w' := w) (by rfl) ?_ ⟨rfl, ?_⟩
        rotate_left
        · go_simp
          with_reducible rfl
        · rfl
      · intro w hB; rintro _ ⟨_, rfl⟩
        simp only [St.withD, List.nil_append, List.cons_append, Act.put, List.setIfInBounds_toArray, List.set_cons_zero, List.set_cons_succ]
        refine St.ob_value (v := ?_) (w' := w) (by rfl) ?_ ⟨rfl, ?_⟩
        rotate_left
        · go_simp
          with_reducible rfl
        · rfl
      · intro w hB; rintro _ ⟨_, rfl⟩
        simp only [St.withD, List.nil_append, List.cons_append, Act.put, List.setIfInBounds_toArray, List.set_cons_zero, List.set_cons_succ]
        refine St.ob_value (v := ?_) (w' := w) (by rfl) ?_ ⟨rfl, ?_⟩
        rotate_left
        · go_simp
          with_reducible rfl
        · rfl
      · intro w hB; rintro _ ⟨_, rfl⟩
        simp only [St.withD, List.nil_append, List.cons_append, Act.put, List.setIfInBounds_toArray, List.set_cons_zero, List.set_cons_succ]
        have hs := HS.out
        rw [← hB] at hs
        have c1 : w.cell? ⟨b, 1, none⟩ = some (.slice (some ⟨g, 0, none⟩) n c0) := (blk_cell hs.1 1).trans rfl
        have a1 := hs.2.1
        clear hB hs
        refine St.ob_value (v := ?_) (w' := w) (by rfl) ?_ ⟨rfl, ?_⟩
        rotate_left
        · go_simp
          with_reducible rfl
        · rfl
      · intro w hB
        simp only [St.withD]
        refine St.ob_value (v := ?_) (w' := w) (by rfl) ?_ ⟨rfl, ?_⟩
        rotate_left
        · go_simp
          with_reducible rfl
        · rfl
      · intro w hB
        simp only [St.withD]
        refine St.ob_value (v := ?_) (w' := w) (by rfl) ?_ ⟨rfl, ?_⟩
        rotate_left
        · go_simp
          with_reducible rfl
        · rfl
      · intro w hB; rintro _ ⟨_, rfl⟩
        simp only [St.withD, List.nil_append, List.cons_append, Act.put, List.setIfInBounds_toArray, List.set_cons_zero, List.set_cons_succ]
        refine St.ob_value (v := ?_) (w' := w) (by rfl) ?_ ⟨rfl, ?_⟩
        rotate_left
        · go_simp
          with_reducible rfl
        · rfl
      · intro w hB; rintro _ ⟨_, rfl⟩
        simp only [St.withD, List.nil_append, List.cons_append, Act.put, List.setIfInBounds_toArray, List.set_cons_zero, List.set_cons_succ]
        refine St.ob_value (v := ?_) (w' := w) (by rfl) ?_ ⟨rfl, ?_⟩
        rotate_left
        · go_simp
          with_reducible rfl
        · rfl
      · intro w hB; rintro _ ⟨_, rfl⟩
        simp only [St.withD, List.nil_append, List.cons_append, Act.put, List.setIfInBounds_toArray, List.set_cons_zero, List.set_cons_succ]
        have hs := HS.out
        rw [← hB] at hs
        have c1 : w.cell? ⟨b, 1, none⟩ = some (.slice (some ⟨g, 0, none⟩) n c0) := (blk_cell hs.1 1).trans rfl
        have a1 := hs.2.1
        clear hB hs
        refine St.ob_value (v := ?_) (w' := w) (by rfl) ?_ ⟨rfl, ?_⟩
        rotate_left
        · go_simp
          with_reducible rfl
        · rfl
      · intro w hB
        simp only [St.withD]
        refine St.ob_value (v := ?_) (w' := w) (by rfl) ?_ ⟨rfl, ?_⟩
        rotate_left
        · go_simp
          with_reducible rfl
        · rfl
      · intro w hB; rintro _ ⟨_, rfl⟩ _ ⟨_, rfl⟩
        simp only [St.withD, List.nil_append, List.cons_append, Act.put, List.setIfInBounds_toArray, List.set_cons_zero, List.set_cons_succ]
        refine St.ob_value (v := ?_) (w' := w) (by rfl) ?_ ⟨rfl, ?_⟩
        rotate_left
        · go_simp
          with_reducible rfl
        · rfl
      · intro w hB; rintro _ ⟨_, rfl⟩
        simp only [St.withD, List.nil_append, List.cons_append, Act.put, List.setIfInBounds_toArray, List.set_cons_zero, List.set_cons_succ]
        refine St.ob_value (v := ?_) (w' := w) (by rfl) ?_ ⟨rfl, ?_⟩
        rotate_left
        · go_simp
          with_reducible rfl
        · rfl
      · intro w hB; rintro _ ⟨_, rfl⟩
        simp only [St.withD, List.nil_append, List.cons_append, Act.put, List.setIfInBounds_toArray, List.set_cons_zero, List.set_cons_succ]
        have hs := HS.out
        rw [← hB] at hs
        have c1 : w.cell? ⟨b, 1, none⟩ = some (.slice (some ⟨g, 0, none⟩) n c0) := (blk_cell hs.1 1).trans rfl
        have a1 := hs.2.1
        clear hB hs
        refine St.ob_value (v := ?_) (w' := w) (by rfl) ?_ ⟨rfl, ?_⟩
        rotate_left
        · go_simp
          with_reducible rfl
        · rfl
      · intro w hB
        simp only [St.withD]
        refine St.ob_value (v := ?_) (w' := w) (by rfl) ?_ ⟨rfl, ?_⟩
        rotate_left
        · go_simp
          with_reducible rfl
        · rfl
      · intro w hB; rintro _ ⟨_, rfl⟩
        simp only [St.withD, List.nil_append, List.cons_append, Act.put, List.setIfInBounds_toArray, List.set_cons_zero, List.set_cons_succ]
        refine St.ob_call Try.func20 (by kernel_rfl) rfl #[.int .i64 wt, .int .i64 0, .int .i64 1048576] (by rfl) rfl (by (try simp only [List.map_toArray, List.map_cons, List.map_nil]); first | done | rfl | (simp only [List.length_drop, List.length_take]; rfl)) ?_
        refine (bring_any wt 0 1048576 (by decide) w).mono ?_
        rintro e w1 ⟨rfl, rfl⟩
        refine ⟨_, rfl, rfl, ?_⟩
        rfl
      · intro w hB; rintro _ ⟨_, rfl⟩ _ ⟨_, rfl⟩
        simp only [St.withD, List.nil_append, List.cons_append, Act.put, List.setIfInBounds_toArray, List.set_cons_zero, List.set_cons_succ]
        clear hB
        have hbd := HBD.out
        have hwa : IntKind.i64.wrap (cn + brI wt 0 1048576) = cn + brI wt 0 1048576 := by rw [IntKind.wrap_i64]; omega
        refine St.ob_value (v := .int .i64 (cn + brI wt 0 1048576)) (w' := w) (by rfl) ?_ ⟨rfl, rfl⟩
        clear hbd
        go_simp
      · intro w hB; rintro _ ⟨_, rfl⟩
        simp only [St.withD, List.nil_append, List.cons_append, Act.put, List.setIfInBounds_toArray, List.set_cons_zero, List.set_cons_succ]
        refine St.ob_call Try.func20 (by kernel_rfl) rfl #[.int .i64 (cn + brI wt 0 1048576), .int .i64 0, .int .i64 1099511627776] (by rfl) rfl (by (try simp only [List.map_toArray, List.map_cons, List.map_nil]); first | done | rfl | (simp only [List.length_drop, List.length_take]; rfl)) ?_
        refine (bring_to HCC.out w).mono ?_
        rintro e w1 ⟨rfl, rfl⟩
        refine ⟨_, rfl, rfl, ?_⟩
        rfl
      · intro w hB; rintro _ ⟨_, rfl⟩ _ ⟨_, rfl⟩
        simp only [St.withD, List.nil_append, List.cons_append, Act.put, List.setIfInBounds_toArray, List.set_cons_zero, List.set_cons_succ]
        refine St.ob_value (v := ?_) (w' := w) (by rfl) ?_ ⟨rfl, ?_⟩
        rotate_left
        · go_simp
          with_reducible rfl
        · rfl
      · intro w hB; rintro _ ⟨_, rfl⟩
        simp only [St.withD, List.nil_append, List.cons_append, Act.put, List.setIfInBounds_toArray, List.set_cons_zero, List.set_cons_succ]
        refine St.ob_value (v := ?_) (w' := w) (by rfl) ?_ ⟨rfl, ?_⟩
        rotate_left
        · go_simp
          with_reducible rfl
        · rfl
      · intro w hB; rintro _ ⟨_, rfl⟩ _ ⟨_, rfl⟩
        simp only [St.withD, List.nil_append, List.cons_append, Act.put, List.setIfInBounds_toArray, List.set_cons_zero, List.set_cons_succ]
        have hs := HS.out
        rw [← hB] at hs
        have a1 := hs.2.1
        have f1 := hs.2.2
        refine St.ob_skip (w' := w.setCell ⟨g, kk * 2 + 1, none⟩ (.int .i64 cc)) (by rfl) ?_ ⟨⟨rfl, by rw [hB]⟩, rfl⟩
        clear hs hB
        go_simp
    case hst => exact ⟨St.eqT_st, St.eqT_st, St.eqT_st, St.eqT_st, St.eqT_st, St.eqT_st, St.eqT_st, St.eqT_st, St.eqT_st, St.eqT_st, St.eqT_st, St.eqT_st, St.eqT_st, St.eqT_st, St.eqT_st, St.eqT_st, St.eqT_st, St.eqT_st, St.eqT_st, St.eqT_st, trivial⟩
    case h0 => exact hwd
    case hB => exact fun w w' h e => e ▸ h
    case hC => (intro w w' h e; subst e; exact h)
    case hend =>
      intro w hB
      rintro _ rfl _ rfl _ rfl _ rfl _ rfl _ rfl _ rfl _ rfl _ rfl _ rfl _ rfl _ rfl _ rfl _ rfl _ rfl _ rfl _ rfl _ rfl _ rfl _ rfl
      simp only [List.map_cons, List.map_nil, List.nil_append, List.cons_append, List.getD_cons_zero, List.getD_cons_succ, Act.put, List.setIfInBounds_toArray, List.set_cons_zero, List.set_cons_succ]
      rw [St.withE_nil]
      subst hB
      go_wp2
      go_ret
      exact FIN.out
  · have hat : atI s L = -1 := by unfold atI; rw [if_neg hp]
    have hpe : pos s L = L.length := by have := pos_le s L; omega
    obtain ⟨m, hm⟩ : ∃ m, L.length = m := ⟨_, rfl⟩
    have hbx := h.box
    rw [hm] at hbx
    by_cases hrm : m < room
    · have HAD : Aside0 (addL room s wt L = (L ++ [⟨s, addC 0 wt⟩], true)) := ⟨by unfold addL; rw [if_neg hp, if_pos (by omega)]⟩
      have hri : ¬ (room : Int) ≤ m := by omega
      have hrn : ¬ room ≤ m := by omega
      have HBX := Aside0.mk hbx
      have HMM := Aside0.mk hm
      obtain ⟨W0, hW0⟩ : ∃ W0, w = W0 := ⟨_, rfl⟩
      have HW0 := Aside0.mk hW0
      clear hW0
      have hm1000 : m ≤ 1000 := by omega
      clear h hB hw hl hlc hpe hp hm hcb hbx hrm
      go_enter Try.func10, Try.ntmps10
      go_wp2_with fail
      refine HAT.out.mono ?_
      rintro e w1 ⟨rfl, rfl⟩
      rw [hat]
      go_upto_region 3 with fail
      go_wp2
      obtain ⟨wd3, hwd3⟩ : ∃ wd3, w.drew = wd3 := ⟨_, rfl⟩
      have HS3 : Aside0 (wd3.heap[b]? = some (.cells #[.int .i64 (room : Nat), .slice A m c0] 40 (0, 0))) := ⟨hwd3 ▸ HBX.out⟩
      clear HAT hat HBX
      refine St.steadyR (n := 10) (by kernel_rfl) ([] :: [(0, 13)] :: [(1, 14)] :: [(2, 15)] :: [(3, 16)] :: [] :: [(5, 18)] :: [(6, 19)] :: [(7, 20)] :: [(4, 17), (8, 21)] :: []) (some 13 :: some 14 :: some 15 :: some 16 :: some 17 :: some 18 :: some 19 :: some 20 :: some 21 :: some 22 :: []) (by kernel_rfl) ((St.eqT ?c3_0x9) :: (St.eqT ?c3_1x9) :: (St.eqT ?c3_2x9) :: (St.eqT ?c3_3x9) :: (St.eqT ?c3_4x9) :: (St.eqT ?c3_5x9) :: (St.eqT ?c3_6x9) :: (St.eqT ?c3_7x9) :: (St.eqT ?c3_8x9) :: (St.eqT ?c3_9x9) :: []) rfl (by rfl) (fun w' => w' = wd3) (fun w w' => w = w') ?hst ?h0 ?hB ?hop ?hend
      case hop =>
        refine ⟨?_, ?_, ?_, ?_, ?_, ?_, ?_, ?_, ?_, ?_, trivial⟩
        · intro w hB
          simp only [St.withD]
          refine St.ob_value (v := ?_) (w' := w) (by rfl) ?_ ⟨rfl, ?_⟩
          rotate_left
          · go_simp
            with_reducible rfl
          · rfl
        · intro w hB; rintro _ ⟨_, rfl⟩
          simp only [St.withD, List.nil_append, List.cons_append, Act.put, List.setIfInBounds_toArray, List.set_cons_zero, List.set_cons_succ]
          refine St.ob_value (v := ?_) (w' := w) (by rfl) ?_ ⟨rfl, ?_⟩
          rotate_left
          · go_simp
            with_reducible rfl
          · rfl
        · intro w hB; rintro _ ⟨_, rfl⟩
          simp only [St.withD, List.nil_append, List.cons_append, Act.put, List.setIfInBounds_toArray, List.set_cons_zero, List.set_cons_succ]
          refine St.ob_value (v := ?_) (w' := w) (by rfl) ?_ ⟨rfl, ?_⟩
          rotate_left
          · go_simp
            with_reducible rfl
          · rfl
        · intro w hB; rintro _ ⟨_, rfl⟩
          simp only [St.withD, List.nil_append, List.cons_append, Act.put, List.setIfInBounds_toArray, List.set_cons_zero, List.set_cons_succ]
          have hs := HS3.out
          rw [← hB] at hs
          have cr0 : w.cell? ⟨b, 0, none⟩ = some (.int .i64 (room : Nat)) := (blk_cell hs 0).trans rfl
          have c1 : w.cell? ⟨b, 1, none⟩ = some (.slice A m c0) := (blk_cell hs 1).trans rfl
          clear hB hs
          refine St.ob_value (v := ?_) (w' := w) (by rfl) ?_ ⟨rfl, ?_⟩
          rotate_left
          · go_simp
            with_reducible rfl
          · rfl
        · intro w hB; rintro _ ⟨_, rfl⟩
          simp only [St.withD, List.nil_append, List.cons_append, Act.put, List.setIfInBounds_toArray, List.set_cons_zero, List.set_cons_succ]
          refine St.ob_value (v := ?_) (w' := w) (by rfl) ?_ ⟨rfl, ?_⟩
          rotate_left
          · go_simp
            with_reducible rfl
          · rfl
        · intro w hB
          simp only [St.withD]
          refine St.ob_value (v := ?_) (w' := w) (by rfl) ?_ ⟨rfl, ?_⟩
          rotate_left
          · go_simp
            with_reducible rfl
          · rfl
        · intro w hB; rintro _ ⟨_, rfl⟩
          simp only [St.withD, List.nil_append, List.cons_append, Act.put, List.setIfInBounds_toArray, List.set_cons_zero, List.set_cons_succ]
          refine St.ob_value (v := ?_) (w' := w) (by rfl) ?_ ⟨rfl, ?_⟩
          rotate_left
          · go_simp
            with_reducible rfl
          · rfl
        · intro w hB; rintro _ ⟨_, rfl⟩
          simp only [St.withD, List.nil_append, List.cons_append, Act.put, List.setIfInBounds_toArray, List.set_cons_zero, List.set_cons_succ]
          refine St.ob_value (v := ?_) (w' := w) (by rfl) ?_ ⟨rfl, ?_⟩
          rotate_left
          · go_simp
            with_reducible rfl
          · rfl
        · intro w hB; rintro _ ⟨_, rfl⟩
          simp only [St.withD, List.nil_append, List.cons_append, Act.put, List.setIfInBounds_toArray, List.set_cons_zero, List.set_cons_succ]
          have hs := HS3.out
          rw [← hB] at hs
          have cr0 : w.cell? ⟨b, 0, none⟩ = some (.int .i64 (room : Nat)) := (blk_cell hs 0).trans rfl
          have c1 : w.cell? ⟨b, 1, none⟩ = some (.slice A m c0) := (blk_cell hs 1).trans rfl
          clear hB hs
          refine St.ob_value (v := ?_) (w' := w) (by rfl) ?_ ⟨rfl, ?_⟩
          rotate_left
          · go_simp
            with_reducible rfl
          · rfl
        · intro w hB; rintro _ ⟨_, rfl⟩ _ ⟨_, rfl⟩
          simp only [St.withD, List.nil_append, List.cons_append, Act.put, List.setIfInBounds_toArray, List.set_cons_zero, List.set_cons_succ]
          refine St.ob_value (v := ?_) (w' := w) (by rfl) ?_ ⟨rfl, ?_⟩
          rotate_left
          · go_simp
            with_reducible rfl
          · rfl
      case hst => exact ⟨St.eqT_st, St.eqT_st, St.eqT_st, St.eqT_st, St.eqT_st, St.eqT_st, St.eqT_st, St.eqT_st, St.eqT_st, St.eqT_st, trivial⟩
      case h0 => exact hwd3
      case hB => exact fun w w' h e => e ▸ h
      case hend =>
        intro w hB
        rintro _ rfl _ rfl _ rfl _ rfl _ rfl _ rfl _ rfl _ rfl _ rfl _ rfl
        simp only [List.map_cons, List.map_nil, List.nil_append, List.cons_append, List.getD_cons_zero, List.getD_cons_succ, Act.put, List.setIfInBounds_toArray, List.set_cons_zero, List.set_cons_succ]
        rw [St.withE_nil]
        rw [hB]
        clear hB
        have HD0 : Aside0 (DT B W0 b room (.slice A L.length c0) L ∧ B ≤ W0.heap.size) := ⟨by rw [← HW0.out]; exact H.out.1, by rw [← HW0.out]; exact H.out.2.1⟩
        have hwd0 : W0.drew = wd3 := by rw [← HW0.out]; exact hwd3
        clear hwd3
        have HR3 : Aside0 (wd3.ownsRow B 37 2 (.slice A m c0) m (ents L) ∧ B ≤ wd3.heap.size ∧ wd3.heap.size = W0.heap.size ∧ Ch (fun i => i = b ∨ some i = (Value.slice A L.length c0).ownBlock) W0 wd3) := ⟨by
          rw [← hwd0]
          have := HD0.out.1.row
          rw [HMM.out] at this
          exact this, by rw [← hwd0]; exact HD0.out.2, by rw [← hwd0]; rfl, by rw [← hwd0]; exact (Ch.refl _ _).drew⟩
        clear hwd0 H
        have k4 : wd3.cell? ⟨b, 1, none⟩ = some (.slice A m c0) := (blk_cell HS3.out 1).trans rfl
        go_upto_region 5 with fail
        go_wp2_with ((with_reducible refine gate_dst (N := 31) rfl ?_); refine app_cells (w0 := _) B rfl (.tmp 27) (.tmp 30) 38 37 (.agg #[.string ByteArray.empty, .int .i64 0]) 2 24 wd3.heap.size rfl Try.underlying38 infoR rfl (by decide) (by decide) (.slice A m c0) m (ents L) [.string s, .int .i64 0] rfl rfl rfl rfl (by simp [Value.oneCell']) HR3.out.1 (Below.refl _ _) HR3.out.2.1 (by omega) ?_; intro v1 w5 hown hbel hgrow hat; obtain ⟨g, c3, rfl, hg1b⟩ := own_someR hown; have hb5 := blk_grown HS3.out hgrow (own_ne HR3.out.1 HS3.out (by decide)); have HW5 := Aside0.mk (And.intro hown (And.intro hgrow (And.intro hat (And.intro hb5 hg1b)))); have k5 : w5.cell? ⟨b, 1, none⟩ = some (.slice A m c0) := (blk_cell hb5 1).trans rfl; have f5 := blk_frozen hb5 1; clear hown hbel hgrow hat hb5 k4 hg1b)
        have hwm : IntKind.i64.wrap (((m + 1 : Nat) : Int) - 1) = m := by rw [IntKind.wrap_i64]; omega
        go_upto_region 7 with fail
        go_wp2
        obtain ⟨cn, hcn⟩ : ∃ cn : Int, 0 = cn := ⟨_, rfl⟩
        obtain ⟨cc, hcc⟩ : ∃ cc, addC cn wt = cc := ⟨_, rfl⟩
        have HCC : Aside0 (brI (cn + brI wt 0 1048576) 0 1099511627776 = cc ∧ (0 : Int) ≤ 1099511627776) := ⟨hcc, by decide⟩
        have HBD : Aside0 (0 ≤ brI wt 0 1048576 ∧ brI wt 0 1048576 ≤ 1048576 ∧ 0 ≤ cn ∧ cn ≤ 1099511627776) := ⟨by unfold brI; omega, by unfold brI; omega, by omega, by omega⟩
        have HAD2 : Aside0 (addL room s wt L = (L ++ [⟨s, cc⟩], true)) := ⟨by rw [HAD.out, ← hcc, ← hcn]⟩
        obtain ⟨wd, hwd⟩ : ∃ wd, (w5.setCell ⟨b, 1, none⟩ (.slice (some ⟨g, 0, none⟩) (m + 1) c3)).drew = wd := ⟨_, rfl⟩
        have hne : some b ≠ (Value.slice (some ⟨g, 0, none⟩) (m + 1) c3).ownBlock := own_ne HW5.out.1 HW5.out.2.2.2.1 (by decide)
        have hbg : b ≠ g := fun e => hne (by rw [e]; rfl)
        have hrow : wd.ownsRow B 37 2 (.slice (some ⟨g, 0, none⟩) (m + 1) c3) (L ++ [(⟨s, cn⟩ : It)]).length (ents (L ++ [(⟨s, cn⟩ : It)])) := by
          rw [← hwd, ← hcn, ← ents_snoc, List.length_append, HMM.out]
          exact own_setCell HW5.out.1 hne _
        have hbox : wd.heap[b]? = some (.cells #[.int .i64 (room : Nat), .slice (some ⟨g, 0, none⟩) (m + 1) c3] 40 (0, 0)) := by
          rw [← hwd]
          exact blk_put HW5.out.2.2.2.1 1 _ rfl
        have hitem : (L ++ [(⟨s, cn⟩ : It)]).getD m ez = ⟨s, cn⟩ := by rw [← HMM.out]; simp
        have hlt1 : m < (L ++ [(⟨s, cn⟩ : It)]).length := by rw [List.length_append, HMM.out]; simp
        obtain ⟨g2, e2, _, a1, f1⟩ := own_item hrow m hlt1
        cases e2
        rw [hitem] at a1
        have HS : Aside0 (wd.heap[b]? = some (.cells #[.int .i64 (room : Nat), .slice (some ⟨g, 0, none⟩) (m + 1) c3] 40 (0, 0)) ∧ wd.cell? ⟨g, m * 2 + 1, none⟩ = some (.int .i64 cn) ∧ wd.frozen? ⟨g, m * 2 + 1, none⟩ = false) := ⟨hbox, a1, f1⟩
        have FIN : Aside0 (RAddPost B b room (.slice A L.length c0) L s wt W0 (.returned (.bool true)) (wd.setCell ⟨g, m * 2 + 1, none⟩ (.int .i64 cc))) := ⟨by
          have ho := own_cnt hrow m hlt1 cc
          have hset : (L ++ [(⟨s, cn⟩ : It)]).set m ⟨((L ++ [(⟨s, cn⟩ : It)]).getD m ez).t, cc⟩ = L ++ [⟨s, cc⟩] := by
            rw [hitem, ← HMM.out]; simp
          rw [hset] at ho
          have hob : (Value.slice A L.length c0).ownBlock = (Value.slice A m c0).ownBlock := by rw [HMM.out]
          have hch : Ch (fun i => i = b ∨ some i = (Value.slice A L.length c0).ownBlock) W0 wd := by
            rw [← hwd]
            exact ((HR3.out.2.2.2.trans (Ch.grown HW5.out.2.1 (fun q e => .inr (e.symm.trans hob.symm)))).set (.inl rfl)).drew
          have hgb : some g = (Value.slice A L.length c0).ownBlock ∨ W0.heap.size ≤ g := by
            rcases HW5.out.2.2.1 with h1 | ⟨q, h1, h2⟩
            · exact .inl (h1.trans hob.symm)
            · right
              have : g = q := by simpa [Value.ownBlock] using h1
              rw [this, ← HR3.out.2.2.1]; exact h2
          refine ⟨.slice (some ⟨g, 0, none⟩) (m + 1) c3, by rw [HAD2.out], ⟨blk_far hbox (p := ⟨g, m * 2 + 1, none⟩) hbg _, by rw [HAD2.out]; exact ho, hne, HD0.out.1.lo⟩, ?_, fun q e => ?_⟩
          · rcases hgb with h1 | h1
            · exact hch.set (.inr h1)
            · exact hch.setNew h1
          · have : g = q := by simpa [Value.ownBlock] using e
            subst this
            rcases hgb with h1 | h1
            · exact .inl h1.symm
            · exact .inr h1⟩
        have hkn : m < m + 1 := by omega
        have hknI : (m : Int) < (m : Int) + 1 := by omega
        have hk0 : (0 : Int) ≤ m := by omega
        clear hne hbg hrow hbox hitem hlt1 a1 f1 hcn hcc HAD HAD2 HR3 HW5 HD0 HS3 k5 f5
        refine St.steadyW (n := 20) (by kernel_rfl) ([] :: [(0, 40)] :: [(1, 41)] :: [(2, 42)] :: [] :: [] :: [(5, 45)] :: [(6, 46)] :: [(7, 47)] :: [] :: [(8, 48), (9, 49)] :: [(10, 50)] :: [(11, 51)] :: [] :: [(13, 53)] :: [(12, 52), (14, 54)] :: [(15, 55)] :: [(3, 43), (4, 44)] :: [(17, 57)] :: [(16, 56), (18, 58)] :: []) (some 40 :: some 41 :: some 42 :: some 43 :: some 44 :: some 45 :: some 46 :: some 47 :: some 48 :: some 49 :: some 50 :: some 51 :: some 52 :: some 53 :: some 54 :: some 55 :: some 56 :: some 57 :: some 58 :: none :: []) (by kernel_rfl) 19 (0 :: 0 :: 0 :: 0 :: 0 :: 0 :: 0 :: 0 :: 0 :: 0 :: 0 :: 0 :: 0 :: 0 :: 0 :: 0 :: 0 :: 0 :: 0 :: 1 :: []) (by kernel_rfl) rfl (by decide) ((St.eqT ?c7_0x10) :: (St.eqT ?c7_1x10) :: (St.eqT ?c7_2x10) :: (St.eqT ?c7_3x10) :: (St.eqT ?c7_4x10) :: (St.eqT ?c7_5x10) :: (St.eqT ?c7_6x10) :: (St.eqT ?c7_7x10) :: (St.eqT ?c7_8x10) :: (St.eqT ?c7_9x10) :: (St.eqT ?c7_10x10) :: (St.eqT ?c7_11x10) :: (St.eqT ?c7_12x10) :: (St.eqT ?c7_13x10) :: (St.eqT ?c7_14x10) :: (St.eqT (.int .i64 (cn + brI wt 0 1048576))) :: (St.eqT (.int .i64 cc)) :: (St.eqT ?c7_17x10) :: (St.eqT ?c7_18x10) :: (St.eqT undef) :: []) rfl (by rfl) (fun w' => w' = wd) (fun w w' => w = w') (fun w w' => w' = w.setCell ⟨g, m * 2 + 1, none⟩ (.int .i64 cc)) (fun w' => w' = wd.setCell ⟨g, m * 2 + 1, none⟩ (.int .i64 cc)) (fun w w' => w = w') ?hst ?h0 ?hB ?hC ?hop ?hend
        case hop =>
          refine ⟨?_, ?_, ?_, ?_, ?_, ?_, ?_, ?_, ?_, ?_, ?_, ?_, ?_, ?_, ?_, ?_, ?_, ?_, ?_, ?_, trivial⟩
          · intro w hB
            simp only [St.withD]
            refine St.ob_value (v := ?_) (w' := w) (by rfl) ?_ ⟨rfl, ?_⟩
            rotate_left
            · go_simp
              with_reducible rfl
            · rfl
          · intro w hB; rintro _ ⟨_, rfl⟩
            simp only [St.withD, List.nil_append, List.cons_append, Act.put, List.setIfInBounds_toArray, List.set_cons_zero, List.set_cons_succ]
            refine St.ob_value (v := ?_) (w' := w) (by rfl) ?_ ⟨rfl, ?_⟩
            rotate_left
            · go_simp
              with_reducible rfl
            · rfl
          · intro w hB; rintro _ ⟨_, rfl⟩
            simp only [St.withD, List.nil_append, List.cons_append, Act.put, List.setIfInBounds_toArray, List.set_cons_zero, List.set_cons_succ]
            refine St.ob_value (v := ?_) (w' := w) (by rfl) ?_ ⟨rfl, ?_⟩
            rotate_left
            · go_simp
              with_reducible rfl
            · rfl
          · intro w hB; rintro _ ⟨_, rfl⟩
            simp only [St.withD, List.nil_append, List.cons_append, Act.put, List.setIfInBounds_toArray, List.set_cons_zero, List.set_cons_succ]
            have hs := HS.out
            rw [← hB] at hs
            have c1 : w.cell? ⟨b, 1, none⟩ = some (.slice (some ⟨g, 0, none⟩) (m + 1) c3) := (blk_cell hs.1 1).trans rfl
            have a1 := hs.2.1
            clear hB hs
            refine St.ob_value (v := ?_) (w' := w) (by rfl) ?_ ⟨rfl, ?_⟩
            rotate_left
            · go_simp
              with_reducible rfl
            · rfl
          · intro w hB
            simp only [St.withD]
            refine St.ob_value (v := ?_) (w' := w) (by rfl) ?_ ⟨rfl, ?_⟩
            rotate_left
            · go_simp
              with_reducible rfl
            · rfl
          · intro w hB
            simp only [St.withD]
            refine St.ob_value (v := ?_) (w' := w) (by rfl) ?_ ⟨rfl, ?_⟩
            rotate_left
            · go_simp
              with_reducible rfl
            · rfl
          · intro w hB; rintro _ ⟨_, rfl⟩
            simp only [St.withD, List.nil_append, List.cons_append, Act.put, List.setIfInBounds_toArray, List.set_cons_zero, List.set_cons_succ]
            refine St.ob_value (v := ?_) (w' := w) (by rfl) ?_ ⟨rfl, ?_⟩
            rotate_left
            · go_simp
              with_reducible rfl
            · rfl
          · intro w hB; rintro _ ⟨_, rfl⟩
            simp only [St.withD, List.nil_append, List.cons_append, Act.put, List.setIfInBounds_toArray, List.set_cons_zero, List.set_cons_succ]
            refine St.ob_value (v := ?_) (w' := w) (by rfl) ?_ ⟨rfl, ?_⟩
            rotate_left
            · go_simp
              with_reducible rfl
            · rfl
          · intro w hB; rintro _ ⟨_, rfl⟩
            simp only [St.withD, List.nil_append, List.cons_append, Act.put, List.setIfInBounds_toArray, List.set_cons_zero, List.set_cons_succ]
            have hs := HS.out
            rw [← hB] at hs
            have c1 : w.cell? ⟨b, 1, none⟩ = some (.slice (some ⟨g, 0, none⟩) (m + 1) c3) := (blk_cell hs.1 1).trans rfl
            have a1 := hs.2.1
            clear hB hs
            refine St.ob_value (v := ?_) (w' := w) (by rfl) ?_ ⟨rfl, ?_⟩
            rotate_left
            · go_simp
              with_reducible rfl
            · rfl
          · intro w hB
            simp only [St.withD]
            refine St.ob_value (v := ?_) (w' := w) (by rfl) ?_ ⟨rfl, ?_⟩
            rotate_left
            · go_simp
              with_reducible rfl
            · rfl
          · intro w hB; rintro _ ⟨_, rfl⟩ _ ⟨_, rfl⟩
            simp only [St.withD, List.nil_append, List.cons_append, Act.put, List.setIfInBounds_toArray, List.set_cons_zero, List.set_cons_succ]
            refine St.ob_value (v := ?_) (w' := w) (by rfl) ?_ ⟨rfl, ?_⟩
            rotate_left
            · go_simp
              with_reducible rfl
            · rfl
          · intro w hB; rintro _ ⟨_, rfl⟩
            simp only [St.withD, List.nil_append, List.cons_append, Act.put, List.setIfInBounds_toArray, List.set_cons_zero, List.set_cons_succ]
            refine St.ob_value (v := ?_) (w' := w) (by rfl) ?_ ⟨rfl, ?_⟩
            rotate_left
            · go_simp
              with_reducible rfl
            · rfl
          · intro w hB; rintro _ ⟨_, rfl⟩
            simp only [St.withD, List.nil_append, List.cons_append, Act.put, List.setIfInBounds_toArray, List.set_cons_zero, List.set_cons_succ]
            have hs := HS.out
            rw [← hB] at hs
            have c1 : w.cell? ⟨b, 1, none⟩ = some (.slice (some ⟨g, 0, none⟩) (m + 1) c3) := (blk_cell hs.1 1).trans rfl
            have a1 := hs.2.1
            clear hB hs
            refine St.ob_value (v := ?_) (w' := w) (by rfl) ?_ ⟨rfl, ?_⟩
            rotate_left
            · go_simp
              with_reducible rfl
            · rfl
          · intro w hB
            simp only [St.withD]
            refine St.ob_value (v := ?_) (w' := w) (by rfl) ?_ ⟨rfl, ?_⟩
            rotate_left
            · go_simp
              with_reducible rfl
            · rfl
          · intro w hB; rintro _ ⟨_, rfl⟩
            simp only [St.withD, List.nil_append, List.cons_append, Act.put, List.setIfInBounds_toArray, List.set_cons_zero, List.set_cons_succ]
            refine St.ob_call Try.func20 (by kernel_rfl) rfl #[.int .i64 wt, .int .i64 0, .int .i64 1048576] (by rfl) rfl (by (try simp only [List.map_toArray, List.map_cons, List.map_nil]); first | done | rfl | (simp only [List.length_drop, List.length_take]; rfl)) ?_
            refine (bring_any wt 0 1048576 (by decide) w).mono ?_
            rintro e w1 ⟨rfl, rfl⟩
            refine ⟨_, rfl, rfl, ?_⟩
            rfl
          · intro w hB; rintro _ ⟨_, rfl⟩ _ ⟨_, rfl⟩
            simp only [St.withD, List.nil_append, List.cons_append, Act.put, List.setIfInBounds_toArray, List.set_cons_zero, List.set_cons_succ]
            clear hB
            have hbd := HBD.out
            have hwa : IntKind.i64.wrap (cn + brI wt 0 1048576) = cn + brI wt 0 1048576 := by rw [IntKind.wrap_i64]; omega
            refine St.ob_value (v := .int .i64 (cn + brI wt 0 1048576)) (w' := w) (by rfl) ?_ ⟨rfl, rfl⟩
            clear hbd
            go_simp
          · intro w hB; rintro _ ⟨_, rfl⟩
            simp only [St.withD, List.nil_append, List.cons_append, Act.put, List.setIfInBounds_toArray, List.set_cons_zero, List.set_cons_succ]
            refine St.ob_call Try.func20 (by kernel_rfl) rfl #[.int .i64 (cn + brI wt 0 1048576), .int .i64 0, .int .i64 1099511627776] (by rfl) rfl (by (try simp only [List.map_toArray, List.map_cons, List.map_nil]); first | done | rfl | (simp only [List.length_drop, List.length_take]; rfl)) ?_
            refine (bring_to HCC.out w).mono ?_
            rintro e w1 ⟨rfl, rfl⟩
            refine ⟨_, rfl, rfl, ?_⟩
            rfl
          · intro w hB; rintro _ ⟨_, rfl⟩ _ ⟨_, rfl⟩
            simp only [St.withD, List.nil_append, List.cons_append, Act.put, List.setIfInBounds_toArray, List.set_cons_zero, List.set_cons_succ]
            refine St.ob_value (v := ?_) (w' := w) (by rfl) ?_ ⟨rfl, ?_⟩
            rotate_left
            · go_simp
              with_reducible rfl
            · rfl
          · intro w hB; rintro _ ⟨_, rfl⟩
            simp only [St.withD, List.nil_append, List.cons_append, Act.put, List.setIfInBounds_toArray, List.set_cons_zero, List.set_cons_succ]
            refine St.ob_value (v := ?_) (w' := w) (by rfl) ?_ ⟨rfl, ?_⟩
            rotate_left
            · go_simp
              with_reducible rfl
            · rfl
          · intro w hB; rintro _ ⟨_, rfl⟩ _ ⟨_, rfl⟩
            simp only [St.withD, List.nil_append, List.cons_append, Act.put, List.setIfInBounds_toArray, List.set_cons_zero, List.set_cons_succ]
            have hs := HS.out
            rw [← hB] at hs
            have a1 := hs.2.1
            have f1 := hs.2.2
            refine St.ob_skip (w' := w.setCell ⟨g, m * 2 + 1, none⟩ (.int .i64 cc)) (by rfl) ?_ ⟨⟨rfl, by rw [hB]⟩, rfl⟩
            clear hs hB
            go_simp
        case hst => exact ⟨St.eqT_st, St.eqT_st, St.eqT_st, St.eqT_st, St.eqT_st, St.eqT_st, St.eqT_st, St.eqT_st, St.eqT_st, St.eqT_st, St.eqT_st, St.eqT_st, St.eqT_st, St.eqT_st, St.eqT_st, St.eqT_st, St.eqT_st, St.eqT_st, St.eqT_st, St.eqT_st, trivial⟩
        case h0 => exact hwd
        case hB => exact fun w w' h e => e ▸ h
        case hC => (intro w w' h e; subst e; exact h)
        case hend =>
          intro w hB
          rintro _ rfl _ rfl _ rfl _ rfl _ rfl _ rfl _ rfl _ rfl _ rfl _ rfl _ rfl _ rfl _ rfl _ rfl _ rfl _ rfl _ rfl _ rfl _ rfl _ rfl
          simp only [List.map_cons, List.map_nil, List.nil_append, List.cons_append, List.getD_cons_zero, List.getD_cons_succ, Act.put, List.setIfInBounds_toArray, List.set_cons_zero, List.set_cons_succ]
          rw [St.withE_nil]
          subst hB
          go_wp2
          go_ret
          rw [HW0.out]; exact FIN.out
    · have HAD : Aside0 (addL room s wt L = (L, false)) := ⟨by unfold addL; rw [if_neg hp, if_neg (by omega)]⟩
      have hri : (room : Int) ≤ m := by omega
      have hrn : room ≤ m := by omega
      have HBX := Aside0.mk hbx
      clear h hB hw hl hlc hpe hp hm hcb hbx hrm
      go_enter Try.func10, Try.ntmps10
      go_wp2_with fail
      refine HAT.out.mono ?_
      rintro e w1 ⟨rfl, rfl⟩
      rw [hat]
      go_upto_region 3 with fail
      go_wp2
      obtain ⟨wd3, hwd3⟩ : ∃ wd3, w.drew = wd3 := ⟨_, rfl⟩
      have HS3 : Aside0 (wd3.heap[b]? = some (.cells #[.int .i64 (room : Nat), .slice A m c0] 40 (0, 0))) := ⟨hwd3 ▸ HBX.out⟩
      clear HAT hat HBX
      refine St.steadyR (n := 10) (by kernel_rfl) ([] :: [(0, 13)] :: [(1, 14)] :: [(2, 15)] :: [(3, 16)] :: [] :: [(5, 18)] :: [(6, 19)] :: [(7, 20)] :: [(4, 17), (8, 21)] :: []) (some 13 :: some 14 :: some 15 :: some 16 :: some 17 :: some 18 :: some 19 :: some 20 :: some 21 :: some 22 :: []) (by kernel_rfl) ((St.eqT ?c3_0x8) :: (St.eqT ?c3_1x8) :: (St.eqT ?c3_2x8) :: (St.eqT ?c3_3x8) :: (St.eqT ?c3_4x8) :: (St.eqT ?c3_5x8) :: (St.eqT ?c3_6x8) :: (St.eqT ?c3_7x8) :: (St.eqT ?c3_8x8) :: (St.eqT ?c3_9x8) :: []) rfl (by rfl) (fun w' => w' = wd3) (fun w w' => w = w') ?hst ?h0 ?hB ?hop ?hend
      case hop =>
        refine ⟨?_, ?_, ?_, ?_, ?_, ?_, ?_, ?_, ?_, ?_, trivial⟩
        · intro w hB
          simp only [St.withD]
          refine St.ob_value (v := ?_) (w' := w) (by rfl) ?_ ⟨rfl, ?_⟩
          rotate_left
          · go_simp
            with_reducible rfl
          · rfl
        · intro w hB; rintro _ ⟨_, rfl⟩
          simp only [St.withD, List.nil_append, List.cons_append, Act.put, List.setIfInBounds_toArray, List.set_cons_zero, List.set_cons_succ]
          refine St.ob_value (v := ?_) (w' := w) (by rfl) ?_ ⟨rfl, ?_⟩
          rotate_left
          · go_simp
            with_reducible rfl
          · rfl
        · intro w hB; rintro _ ⟨_, rfl⟩
          simp only [St.withD, List.nil_append, List.cons_append, Act.put, List.setIfInBounds_toArray, List.set_cons_zero, List.set_cons_succ]
          refine St.ob_value (v := ?_) (w' := w) (by rfl) ?_ ⟨rfl, ?_⟩
          rotate_left
          · go_simp
            with_reducible rfl
          · rfl
        · intro w hB; rintro _ ⟨_, rfl⟩
          simp only [St.withD, List.nil_append, List.cons_append, Act.put, List.setIfInBounds_toArray, List.set_cons_zero, List.set_cons_succ]
          have hs := HS3.out
          rw [← hB] at hs
          have cr0 : w.cell? ⟨b, 0, none⟩ = some (.int .i64 (room : Nat)) := (blk_cell hs 0).trans rfl
          have c1 : w.cell? ⟨b, 1, none⟩ = some (.slice A m c0) := (blk_cell hs 1).trans rfl
          clear hB hs
          refine St.ob_value (v := ?_) (w' := w) (by rfl) ?_ ⟨rfl, ?_⟩
          rotate_left
          · go_simp
            with_reducible rfl
          · rfl
        · intro w hB; rintro _ ⟨_, rfl⟩
          simp only [St.withD, List.nil_append, List.cons_append, Act.put, List.setIfInBounds_toArray, List.set_cons_zero, List.set_cons_succ]
          refine St.ob_value (v := ?_) (w' := w) (by rfl) ?_ ⟨rfl, ?_⟩
          rotate_left
          · go_simp
            with_reducible rfl
          · rfl
        · intro w hB
          simp only [St.withD]
          refine St.ob_value (v := ?_) (w' := w) (by rfl) ?_ ⟨rfl, ?_⟩
          rotate_left
          · go_simp
            with_reducible rfl
          · rfl
        · intro w hB; rintro _ ⟨_, rfl⟩
          simp only [St.withD, List.nil_append, List.cons_append, Act.put, List.setIfInBounds_toArray, List.set_cons_zero, List.set_cons_succ]
          refine St.ob_value (v := ?_) (w' := w) (by rfl) ?_ ⟨rfl, ?_⟩
          rotate_left
          · go_simp
            with_reducible rfl
          · rfl
        · intro w hB; rintro _ ⟨_, rfl⟩
          simp only [St.withD, List.nil_append, List.cons_append, Act.put, List.setIfInBounds_toArray, List.set_cons_zero, List.set_cons_succ]
          refine St.ob_value (v := ?_) (w' := w) (by rfl) ?_ ⟨rfl, ?_⟩
          rotate_left
          · go_simp
            with_reducible rfl
          · rfl
        · intro w hB; rintro _ ⟨_, rfl⟩
          simp only [St.withD, List.nil_append, List.cons_append, Act.put, List.setIfInBounds_toArray, List.set_cons_zero, List.set_cons_succ]
          have hs := HS3.out
          rw [← hB] at hs
          have cr0 : w.cell? ⟨b, 0, none⟩ = some (.int .i64 (room : Nat)) := (blk_cell hs 0).trans rfl
          have c1 : w.cell? ⟨b, 1, none⟩ = some (.slice A m c0) := (blk_cell hs 1).trans rfl
          clear hB hs
          refine St.ob_value (v := ?_) (w' := w) (by rfl) ?_ ⟨rfl, ?_⟩
          rotate_left
          · go_simp
            with_reducible rfl
          · rfl
        · intro w hB; rintro _ ⟨_, rfl⟩ _ ⟨_, rfl⟩
          simp only [St.withD, List.nil_append, List.cons_append, Act.put, List.setIfInBounds_toArray, List.set_cons_zero, List.set_cons_succ]
          refine St.ob_value (v := ?_) (w' := w) (by rfl) ?_ ⟨rfl, ?_⟩
          rotate_left
          · go_simp
            with_reducible rfl
          · rfl
      case hst => exact ⟨St.eqT_st, St.eqT_st, St.eqT_st, St.eqT_st, St.eqT_st, St.eqT_st, St.eqT_st, St.eqT_st, St.eqT_st, St.eqT_st, trivial⟩
      case h0 => exact hwd3
      case hB => exact fun w w' h e => e ▸ h
      case hend =>
        intro w hB
        rintro _ rfl _ rfl _ rfl _ rfl _ rfl _ rfl _ rfl _ rfl _ rfl _ rfl
        simp only [List.map_cons, List.map_nil, List.nil_append, List.cons_append, List.getD_cons_zero, List.getD_cons_succ, Act.put, List.setIfInBounds_toArray, List.set_cons_zero, List.set_cons_succ]
        rw [St.withE_nil]
        rw [hB]
        clear hB
        go_wp2
        go_ret
        refine ⟨_, by rw [HAD.out]; rfl, by rw [HAD.out]; rw [← hwd3]; exact H.out.1.below (below_drew (Below.refl _ _)), ?_, fun q e => .inl e⟩
        rw [← hwd3]
        exact (Ch.refl _ _).drew
end
end Go.Proofs.Ytfijbhacobjjgah
