/- The walk of StateRuns: it answers true. -/
import Derived.Test.YtfijbhacobjjgacRunsA
import Derived.Deep.CutBlock
namespace Go.Proofs.Ytfijbhacobjjgac
open Go.RowKit Go.Proofs.YtfijbhacobjjgacW.PrintWords Go.Proofs.YtfijbhacobjjgacW.PrintLast Go.Proofs.YtfijbhacobjjgacW.PrintMore Go.Proofs.Ytfijbhacobjjgac.Fr
set_option linter.unusedVariables false
set_option linter.unusedSimpArgs false
attribute [local go_sem] max2_int min2_int max_two min_two

open Go.Maps
section
variable {B : Nat} {a w : World} {bx : Option (Nat × Obj)} {X : (Nat → Prop) → World → Prop} {b : Nat} {rs ds ts : List ByteArray} {es : List Int} {x : Int} {s : ByteArray}
theorem fam_rkp : Fam B (RKp es ts x s B b rs ds) where
  lt := by rintro F w i ⟨_, _, _, h⟩ hi; exact fam_yb.lt F w i h hi
  ch := by rintro F w w' S ⟨e, t, hk, h⟩ hc hs; exact ⟨e, t, hk, fam_yb.ch F w w' S h hc hs⟩
theorem Duo.outR (h : Duo B a bx X (RKp es ts x s B b rs ds) w) : ∃ es1 ts1, RKept es ts x s (keepR x s) es1 ts1 ∧ Duo B a bx X (YB B b rs ds es1 ts1) w := by
  obtain ⟨⟨F, H, hx, ⟨e, t, hk, hy⟩, hd, hg⟩, bel, hB⟩ := h
  exact ⟨e, t, hk, ⟨F, H, hx, hy, hd, hg⟩, bel, hB⟩
end
set_option maxHeartbeats 4000000 in
set_option maxRecDepth 100000 in
theorem runs_walk (A : Option Addr) (len ca : Nat) (w0 : World) (hd : IsDeeds w0 A len ca) :
    Calls Try.prog 4 #[.slice A len ca] w0 fun e w' => e = .returned (.bool true) ∧ Below w0.heap.size w0 w' := by
  obtain ⟨hcap, hds⟩ := hd
  have HB := Aside0.mk (Below.refl w0.heap.size w0)
  by_cases hbig : 60 < len
  · go_enter Try.func4, Try.ntmps4
    go_wp2_with ((go_at_call 6; refine (awake_any _).mono ?_; rintro e w1 ⟨rfl, hb⟩; have zz_HB := Aside0.mk (below_step HB.out hb); clear HB; have HB := zz_HB; clear zz_HB; clear hb))
    go_ret
    exact ⟨rfl, HB.out⟩
  have hl60 : len ≤ 60 := by omega
  have HD := Aside0.mk hds
  clear hds hbig
  go_enter Try.func4, Try.ntmps4
  go_wp2_with (first
    | (go_at_call 6; refine (awake_any _).mono ?_; rintro e w1 ⟨rfl, hb⟩; have zz_HB := Aside0.mk (below_step HB.out hb); clear HB; have HB := zz_HB; clear zz_HB; clear hb)
    | (go_at_call 7; refine (new_in _ HB.out HB.out.size).mono ?_; rintro e w2 ⟨g, md, rfl, ht⟩; have HT := Aside0.mk (duo_start ht); clear ht HB))
  generalize w2.alloc (.cells #[Nl, Nl, Nl, Nl] 39) = W at HT ⊢
  generalize w2.heap.size = b at HT ⊢
  go_loopg [24] len (fun d x24 wr => ∃ (k n : Nat) (rs ds : List ByteArray) (D : DW) (es : List Int) (ts : List ByteArray), Aside0 (k + d = len) ∧ x24 = .int .i64 k ∧ Aside0 (rs.length ≤ 20 + k ∧ ds.length ≤ 20 + k ∧ n ≤ k) ∧ Aside0 (Duo w0.heap.size w0 none (XA w0.heap.size g md n rs ds D) (YB w0.heap.size b rs ds es ts) wr) ∧ Aside0 (Rel D es ts))
  case atStart => exact ⟨0, 0, [], [], (.map []), [], [], ⟨by omega⟩, rfl, ⟨by simp⟩, HT, ⟨rel_empty⟩⟩
  case round =>
    clear HT
    obtain ⟨k, n, rs, ds, D, es, ts, HK, rfl, HM, HT, HR⟩ := hrel
    by_cases hlt : k < len
    · obtain ⟨⟨kd, nx, nn, s, LA, lc, L⟩, hx⟩ := HD.out k hlt
      obtain ⟨⟨ad, rfl, hc0, hc1, hc2, hc3, hc4⟩, ⟨hk0, hk1, hwn⟩, hlc, hrL⟩ := hx.below HT.out.bel
      have hrL0 := (hx).2.2.2
      clear hx
      simp only at hc0 hc1 hc2 hc3 hc4 hk0 hk1 hwn hlc hrL0
      rw [cell_off _ (by decide)] at hc1 hc2 hc3 hc4
      have hk2 : k < 60 := by omega
      by_cases h300 : 300 < s.size
      · have h3 : (300 : Int) < (s.size : Int) := by omega
        go_wp2
        go_ret
        exact ⟨rfl, below_alloc HT.out.bel _⟩
      have h3 : (s.size : Int) ≤ 300 := by omega
      by_cases h20 : 20 < L.length
      · have h2 : (20 : Int) < (L.length : Int) := by omega
        go_wp2
        go_ret
        exact ⟨rfl, below_alloc HT.out.bel _⟩
      have h2 : (L.length : Int) ≤ 20 := by omega
      have HQ := Aside0.mk (And.intro hwn hrL0)
      have HL := Aside0.mk hlc
      clear hwn hlc hrL hrL0 h300 h20
      go_upto_block 2 with fail
      have hal := HT.out.with fam_xa fam_yb (.cells #[.int .u8 kd, .bool nx, .int .i64 nn, .string s, .slice LA L.length lc] 28)
      have zz_HT := Aside0.mk (hal); clear HT; have HT := zz_HT; clear zz_HT
      clear hal hc0 hc1 hc2 hc3 hc4
      generalize wr.alloc (.cells #[.int .u8 kd, .bool nx, .int .i64 nn, .string s, .slice LA L.length lc] 28) = W1 at HT ⊢
      generalize wr.heap.size = gx at HT ⊢
      go_cut [7] from 25 to 158 (fun x7 W2 => x7 = .bool true ∧ ∃ (n : Nat) (rs ds : List ByteArray) (D : DW) (es : List Int) (ts : List ByteArray), Aside0 (rs.length ≤ 20 + (k + 1) ∧ ds.length ≤ 20 + (k + 1) ∧ n ≤ k + 1) ∧ Aside0 (Duo w0.heap.size w0 (some (gx, (.cells #[.int .u8 kd, .bool nx, .int .i64 nn, .string s, .slice LA L.length lc] 28 (0, 0)))) (XA w0.heap.size g md n rs ds D) (YB w0.heap.size b rs ds es ts) W2) ∧ Aside0 (Rel D es ts))
      case first =>
        have cx1 : W1.cell? ⟨gx, 1, none⟩ = some (.bool nx) := (blk_cell HT.out.box 1).trans rfl
        have cx2 : W1.cell? ⟨gx, 2, none⟩ = some (.int .i64 nn) := (blk_cell HT.out.box 2).trans rfl
        have hm : kd % 6 = 0 ∨ kd % 6 = 1 ∨ kd % 6 = 2 ∨ kd % 6 = 3 ∨ kd % 6 = 4 ∨ kd % 6 = 5 := by omega
        have ht6 : kd.tmod 6 = kd % 6 := Int.tmod_eq_emod_of_nonneg hk0
        have PIN := Aside0.mk HT.out.pin
        rcases hm with hm | hm | hm | hm | hm | hm
        · have hq0 : (kd % 6 == 0) = true := beq_iff_eq.2 (by omega)
          have pq0 : (kd.tmod 6 == 0) = true := beq_iff_eq.2 (by rw [ht6]; omega)
          clear hm hk0 hk1 ht6
          obtain ⟨FX, FY, _, _, hp⟩ := PIN.out
          have HP := Aside0.mk (And.intro hp True.intro)
          clear hp PIN
          cases nx
          · by_cases hne : nn = rs.length
            · have HNE := Aside0.mk hne
              clear hne
              go_wp2
              refine St.steadyG (n := 12) (by kernel_rfl) ([] :: [] :: [] :: [(2, 51)] :: [(0, 49), (1, 50), (3, 52)] :: [] :: [] :: [] :: [(7, 56)] :: [(5, 54), (6, 55), (8, 57)] :: [(4, 53), (9, 58)] :: [(10, 59)] :: []) (some 49 :: some 50 :: some 51 :: some 52 :: some 53 :: some 54 :: some 55 :: some 56 :: some 57 :: some 58 :: some 59 :: some 7 :: []) (by kernel_rfl) ((St.eqT ?c17_0x3) :: (St.eqT ?c17_1x3) :: (St.eqT ?c17_2x3) :: (St.eqT ?c17_3x3) :: (St.eqT ?c17_4x3) :: (St.eqT ?c17_5x3) :: (St.eqT ?c17_6x3) :: (St.eqT ?c17_7x3) :: (St.eqT ?c17_8x3) :: (St.eqT ?c17_9x3) :: (St.eqT ?c17_10x3) :: (St.eqT ?c17_11x3) :: []) rfl (by rfl) (fun fl w' => Gd w0.heap.size w0 (some (gx, (.cells #[.int .u8 kd, .bool false, .int .i64 nn, .string s, .slice LA L.length lc] 28 (0, 0)))) (XA w0.heap.size g md n rs ds D) (XA w0.heap.size g md n (rs ++ [s]) ds D) (YB w0.heap.size b rs ds es ts) (YB w0.heap.size b (rs ++ [s]) ds es ts) FX FY (fl 4) (fl 9) w') (fun i wa wb => (i = 4 → Turned (XA w0.heap.size g md n (rs ++ [s]) ds D) FX wa wb) ∧ (i = 9 → Turned (YB w0.heap.size b (rs ++ [s]) ds es ts) FY wa wb) ∧ (i ≠ 4 → i ≠ 9 → wa = wb)) ?hst ?h0 (fun i w' => ∃ p q, Gd w0.heap.size w0 (some (gx, (.cells #[.int .u8 kd, .bool false, .int .i64 nn, .string s, .slice LA L.length lc] 28 (0, 0)))) (XA w0.heap.size g md n rs ds D) (XA w0.heap.size g md n (rs ++ [s]) ds D) (YB w0.heap.size b rs ds es ts) (YB w0.heap.size b (rs ++ [s]) ds es ts) FX FY p q w' ∧ (i = 4 → p = false) ∧ (i = 9 → q = false)) ?hB ?hG ?hop ?hend
              case hop =>
                refine ⟨?_, ?_, ?_, ?_, ?_, ?_, ?_, ?_, ?_, ?_, ?_, ?_, trivial⟩
                · intro w hB
                  simp only [St.withD]
                  refine St.ob_value (v := ?_) (w' := w) (by rfl) ?_ ⟨⟨fun e => absurd e (by decide), fun e => absurd e (by decide), fun _ _ => rfl⟩, ?_⟩
                  rotate_left
                  · go_simp
                    with_reducible rfl
                  · rfl
                · intro w hB
                  simp only [St.withD]
                  refine St.ob_value (v := ?_) (w' := w) (by rfl) ?_ ⟨⟨fun e => absurd e (by decide), fun e => absurd e (by decide), fun _ _ => rfl⟩, ?_⟩
                  rotate_left
                  · go_simp
                    with_reducible rfl
                  · rfl
                · intro w hB
                  simp only [St.withD]
                  refine St.ob_value (v := ?_) (w' := w) (by rfl) ?_ ⟨⟨fun e => absurd e (by decide), fun e => absurd e (by decide), fun _ _ => rfl⟩, ?_⟩
                  rotate_left
                  · go_simp
                    with_reducible rfl
                  · rfl
                · intro w hB; rintro _ ⟨_, rfl⟩
                  simp only [St.withD, List.nil_append, List.cons_append, Act.put, List.setIfInBounds_toArray, List.set_cons_zero, List.set_cons_succ]
                  have hbox := hB.choose_spec.choose_spec.1.box
                  have cx2 : w.cell? ⟨gx, 2, none⟩ = some (.int .i64 nn) := (blk_cell hbox 2).trans rfl
                  have cx3 : w.cell? ⟨gx, 3, none⟩ = some (.string s) := (blk_cell hbox 3).trans rfl
                  have cx4 : w.cell? ⟨gx, 4, none⟩ = some (.slice LA L.length lc) := (blk_cell hbox 4).trans rfl
                  refine St.ob_value (v := ?_) (w' := w) (by rfl) ?_ ⟨⟨fun e => absurd e (by decide), fun e => absurd e (by decide), fun _ _ => rfl⟩, ?_⟩
                  rotate_left
                  · go_simp
                    with_reducible rfl
                  · rfl
                · intro w hB; rintro _ ⟨_, rfl⟩ _ ⟨_, rfl⟩ _ ⟨_, rfl⟩
                  simp only [St.withD, List.nil_append, List.cons_append, Act.put, List.setIfInBounds_toArray, List.set_cons_zero, List.set_cons_succ]
                  obtain ⟨p, q, hR, hp3, _⟩ := hB
                  have e := hp3 rfl
                  subst e
                  refine St.ob_call Try.func9 (by kernel_rfl) rfl #[.pointer (some ⟨g, 0, none⟩), .int .i64 nn, .string s] (by rfl) rfl (by (try simp only [List.map_toArray, List.map_cons, List.map_nil]); first | done | rfl | (simp only [List.length_drop, List.length_take]; rfl)) ?_
                  refine (apply_x nn s (Duo.getX hR) (Gd.hB hR) HNE.out (by have := HM.out.1; omega)).mono ?_
                  rintro e w1 ⟨rfl, ht⟩
                  refine ⟨_, rfl, ⟨fun _ => ht, fun e => absurd e (by decide), fun e => absurd rfl e⟩, ?_⟩
                  rfl
                · intro w hB
                  simp only [St.withD]
                  refine St.ob_value (v := ?_) (w' := w) (by rfl) ?_ ⟨⟨fun e => absurd e (by decide), fun e => absurd e (by decide), fun _ _ => rfl⟩, ?_⟩
                  rotate_left
                  · go_simp
                    with_reducible rfl
                  · rfl
                · intro w hB
                  simp only [St.withD]
                  refine St.ob_value (v := ?_) (w' := w) (by rfl) ?_ ⟨⟨fun e => absurd e (by decide), fun e => absurd e (by decide), fun _ _ => rfl⟩, ?_⟩
                  rotate_left
                  · go_simp
                    with_reducible rfl
                  · rfl
                · intro w hB
                  simp only [St.withD]
                  refine St.ob_value (v := ?_) (w' := w) (by rfl) ?_ ⟨⟨fun e => absurd e (by decide), fun e => absurd e (by decide), fun _ _ => rfl⟩, ?_⟩
                  rotate_left
                  · go_simp
                    with_reducible rfl
                  · rfl
                · intro w hB; rintro _ ⟨_, rfl⟩
                  simp only [St.withD, List.nil_append, List.cons_append, Act.put, List.setIfInBounds_toArray, List.set_cons_zero, List.set_cons_succ]
                  have hbox := hB.choose_spec.choose_spec.1.box
                  have cx2 : w.cell? ⟨gx, 2, none⟩ = some (.int .i64 nn) := (blk_cell hbox 2).trans rfl
                  have cx3 : w.cell? ⟨gx, 3, none⟩ = some (.string s) := (blk_cell hbox 3).trans rfl
                  have cx4 : w.cell? ⟨gx, 4, none⟩ = some (.slice LA L.length lc) := (blk_cell hbox 4).trans rfl
                  refine St.ob_value (v := ?_) (w' := w) (by rfl) ?_ ⟨⟨fun e => absurd e (by decide), fun e => absurd e (by decide), fun _ _ => rfl⟩, ?_⟩
                  rotate_left
                  · go_simp
                    with_reducible rfl
                  · rfl
                · intro w hB; rintro _ ⟨_, rfl⟩ _ ⟨_, rfl⟩ _ ⟨_, rfl⟩
                  simp only [St.withD, List.nil_append, List.cons_append, Act.put, List.setIfInBounds_toArray, List.set_cons_zero, List.set_cons_succ]
                  obtain ⟨p, q, hR, _, hp7⟩ := hB
                  have e := hp7 rfl
                  subst e
                  refine St.ob_call Try.func17 (by kernel_rfl) rfl #[.pointer (some ⟨b, 0, none⟩), .int .i64 nn, .string s] (by rfl) rfl (by (try simp only [List.map_toArray, List.map_cons, List.map_nil]); first | done | rfl | (simp only [List.length_drop, List.length_take]; rfl)) ?_
                  refine (apply_y nn s (Duo.getY hR) (Gd.hB hR) HNE.out (by have := HM.out.1; omega)).mono ?_
                  rintro e w1 ⟨rfl, ht⟩
                  refine ⟨_, rfl, ⟨fun e => absurd e (by decide), fun _ => ht, fun _ e => absurd rfl e⟩, ?_⟩
                  rfl
                · intro w hB; rintro _ ⟨_, rfl⟩ _ ⟨_, rfl⟩
                  simp only [St.withD, List.nil_append, List.cons_append, Act.put, List.setIfInBounds_toArray, List.set_cons_zero, List.set_cons_succ]
                  refine St.ob_value (v := ?_) (w' := w) (by rfl) ?_ ⟨⟨fun e => absurd e (by decide), fun e => absurd e (by decide), fun _ _ => rfl⟩, ?_⟩
                  rotate_left
                  · go_simp
                    with_reducible rfl
                  · rfl
                · intro w hB; rintro _ ⟨_, rfl⟩
                  simp only [St.withD, List.nil_append, List.cons_append, Act.put, List.setIfInBounds_toArray, List.set_cons_zero, List.set_cons_succ]
                  refine St.ob_value (v := ?_) (w' := w) (by rfl) ?_ ⟨⟨fun e => absurd e (by decide), fun e => absurd e (by decide), fun _ _ => rfl⟩, ?_⟩
                  rotate_left
                  · go_simp
                    with_reducible rfl
                  · rfl
              case hst =>
                intro i j fl hi hj _ _ _ ds v wa wb ht _
                refine St.sts_get (Rel := fun _ _ _ => True) 0 _ j (by simpa using hj) ?_ ds v wa wb ht trivial
                exact ⟨St.eqT_st, St.eqT_st, St.eqT_st, St.eqT_st, St.eqT_st, St.eqT_st, St.eqT_st, St.eqT_st, St.eqT_st, St.eqT_st, St.eqT_st, St.eqT_st, trivial⟩
              case h0 => exact Gd.from (p := false) (q := false) HP.out.1 fam_xa fam_xa fam_yb fam_yb (below_drew1 (Below.refl _ _))
              case hB => exact fun i fl w' hi hfi _ _ hG => ⟨_, _, hG, fun e => by subst e; exact hfi, fun e => by subst e; exact hfi⟩
              case hG => (
                intro i fl wa wb hi hfi _ _ hG hR
                by_cases h3 : i = 4
                · subst h3
                  rw [hfi] at hG
                  have hk := Gd.left hG fam_xa fam_yb fam_yb (hR.1 rfl)
                  simpa [St.upB] using hk
                · by_cases h7 : i = 9
                  · subst h7
                    rw [hfi] at hG
                    have hk := Gd.right hG fam_xa fam_xa fam_yb (hR.2.1 rfl)
                    simpa [St.upB] using hk
                  · have e := hR.2.2 h3 h7
                    subst e
                    have e3 : St.upB fl i 4 = fl 4 := by unfold St.upB; rw [if_neg (Ne.symm h3)]
                    have e7 : St.upB fl i 9 = fl 9 := by unfold St.upB; rw [if_neg (Ne.symm h7)]
                    simpa only [e3, e7] using hG)
              case hend =>
                intro fl w hall hB
                rintro _ rfl _ rfl _ rfl _ rfl _ rfl _ rfl _ rfl _ rfl _ rfl _ rfl _ rfl _ rfl
                simp only [List.map_cons, List.map_nil, List.nil_append, List.cons_append, List.getD_cons_zero, List.getD_cons_succ, Act.put, List.setIfInBounds_toArray, List.set_cons_zero, List.set_cons_succ]
                rw [St.withE_nil]
                have HG : Aside0 (Gd w0.heap.size w0 (some (gx, (.cells #[.int .u8 kd, .bool false, .int .i64 nn, .string s, .slice LA L.length lc] 28 (0, 0)))) (XA w0.heap.size g md n rs ds D) (XA w0.heap.size g md n (rs ++ [s]) ds D) (YB w0.heap.size b rs ds es ts) (YB w0.heap.size b (rs ++ [s]) ds es ts) FX FY true true w) := ⟨by have h3 := hall 4 (by decide); have h7 := hall 9 (by decide); rw [h3, h7] at hB; exact hB⟩
                clear hB hall
                have HT : Aside0 (Duo w0.heap.size w0 (some (gx, (.cells #[.int .u8 kd, .bool false, .int .i64 nn, .string s, .slice LA L.length lc] 28 (0, 0)))) (XA w0.heap.size g md n (rs ++ [s]) ds D) (YB w0.heap.size b (rs ++ [s]) ds es ts) w) := ⟨HG.out⟩
                clear HG HP
                go_wp2_with fail
                go_meet
                case rel => exact ⟨rfl, n, rs ++ [s], ds, D, es, ts, ⟨by have h := HM.out; simp only [List.length_append, List.length_cons, List.length_nil]; omega⟩, HT, HR⟩
            · have HNE := Aside0.mk hne
              clear hne
              go_wp2
              refine St.steadyG (n := 12) (by kernel_rfl) ([] :: [] :: [] :: [(2, 51)] :: [(0, 49), (1, 50), (3, 52)] :: [] :: [] :: [] :: [(7, 56)] :: [(5, 54), (6, 55), (8, 57)] :: [(4, 53), (9, 58)] :: [(10, 59)] :: []) (some 49 :: some 50 :: some 51 :: some 52 :: some 53 :: some 54 :: some 55 :: some 56 :: some 57 :: some 58 :: some 59 :: some 7 :: []) (by kernel_rfl) ((St.eqT ?c17_0x4) :: (St.eqT ?c17_1x4) :: (St.eqT ?c17_2x4) :: (St.eqT ?c17_3x4) :: (St.eqT ?c17_4x4) :: (St.eqT ?c17_5x4) :: (St.eqT ?c17_6x4) :: (St.eqT ?c17_7x4) :: (St.eqT ?c17_8x4) :: (St.eqT ?c17_9x4) :: (St.eqT ?c17_10x4) :: (St.eqT ?c17_11x4) :: []) rfl (by rfl) (fun fl w' => Gd w0.heap.size w0 (some (gx, (.cells #[.int .u8 kd, .bool false, .int .i64 nn, .string s, .slice LA L.length lc] 28 (0, 0)))) (XA w0.heap.size g md n rs ds D) (XA w0.heap.size g md n rs ds D) (YB w0.heap.size b rs ds es ts) (YB w0.heap.size b rs ds es ts) FX FY (fl 4) (fl 9) w') (fun i wa wb => (i = 4 → Turned (XA w0.heap.size g md n rs ds D) FX wa wb) ∧ (i = 9 → Turned (YB w0.heap.size b rs ds es ts) FY wa wb) ∧ (i ≠ 4 → i ≠ 9 → wa = wb)) ?hst ?h0 (fun i w' => ∃ p q, Gd w0.heap.size w0 (some (gx, (.cells #[.int .u8 kd, .bool false, .int .i64 nn, .string s, .slice LA L.length lc] 28 (0, 0)))) (XA w0.heap.size g md n rs ds D) (XA w0.heap.size g md n rs ds D) (YB w0.heap.size b rs ds es ts) (YB w0.heap.size b rs ds es ts) FX FY p q w' ∧ (i = 4 → p = false) ∧ (i = 9 → q = false)) ?hB ?hG ?hop ?hend
              case hop =>
                refine ⟨?_, ?_, ?_, ?_, ?_, ?_, ?_, ?_, ?_, ?_, ?_, ?_, trivial⟩
                · intro w hB
                  simp only [St.withD]
                  refine St.ob_value (v := ?_) (w' := w) (by rfl) ?_ ⟨⟨fun e => absurd e (by decide), fun e => absurd e (by decide), fun _ _ => rfl⟩, ?_⟩
                  rotate_left
                  · go_simp
                    with_reducible rfl
                  · rfl
                · intro w hB
                  simp only [St.withD]
                  refine St.ob_value (v := ?_) (w' := w) (by rfl) ?_ ⟨⟨fun e => absurd e (by decide), fun e => absurd e (by decide), fun _ _ => rfl⟩, ?_⟩
                  rotate_left
                  · go_simp
                    with_reducible rfl
                  · rfl
                · intro w hB
                  simp only [St.withD]
                  refine St.ob_value (v := ?_) (w' := w) (by rfl) ?_ ⟨⟨fun e => absurd e (by decide), fun e => absurd e (by decide), fun _ _ => rfl⟩, ?_⟩
                  rotate_left
                  · go_simp
                    with_reducible rfl
                  · rfl
                · intro w hB; rintro _ ⟨_, rfl⟩
                  simp only [St.withD, List.nil_append, List.cons_append, Act.put, List.setIfInBounds_toArray, List.set_cons_zero, List.set_cons_succ]
                  have hbox := hB.choose_spec.choose_spec.1.box
                  have cx2 : w.cell? ⟨gx, 2, none⟩ = some (.int .i64 nn) := (blk_cell hbox 2).trans rfl
                  have cx3 : w.cell? ⟨gx, 3, none⟩ = some (.string s) := (blk_cell hbox 3).trans rfl
                  have cx4 : w.cell? ⟨gx, 4, none⟩ = some (.slice LA L.length lc) := (blk_cell hbox 4).trans rfl
                  refine St.ob_value (v := ?_) (w' := w) (by rfl) ?_ ⟨⟨fun e => absurd e (by decide), fun e => absurd e (by decide), fun _ _ => rfl⟩, ?_⟩
                  rotate_left
                  · go_simp
                    with_reducible rfl
                  · rfl
                · intro w hB; rintro _ ⟨_, rfl⟩ _ ⟨_, rfl⟩ _ ⟨_, rfl⟩
                  simp only [St.withD, List.nil_append, List.cons_append, Act.put, List.setIfInBounds_toArray, List.set_cons_zero, List.set_cons_succ]
                  obtain ⟨p, q, hR, hp3, _⟩ := hB
                  have e := hp3 rfl
                  subst e
                  refine St.ob_call Try.func9 (by kernel_rfl) rfl #[.pointer (some ⟨g, 0, none⟩), .int .i64 nn, .string s] (by rfl) rfl (by (try simp only [List.map_toArray, List.map_cons, List.map_nil]); first | done | rfl | (simp only [List.length_drop, List.length_take]; rfl)) ?_
                  refine (apply_xn nn s (Duo.getX hR) HNE.out).mono ?_
                  rintro e w1 ⟨rfl, rfl⟩
                  refine ⟨_, rfl, ⟨fun _ => Turned.refl (Duo.getX hR), fun e => absurd e (by decide), fun e => absurd rfl e⟩, ?_⟩
                  rfl
                · intro w hB
                  simp only [St.withD]
                  refine St.ob_value (v := ?_) (w' := w) (by rfl) ?_ ⟨⟨fun e => absurd e (by decide), fun e => absurd e (by decide), fun _ _ => rfl⟩, ?_⟩
                  rotate_left
                  · go_simp
                    with_reducible rfl
                  · rfl
                · intro w hB
                  simp only [St.withD]
                  refine St.ob_value (v := ?_) (w' := w) (by rfl) ?_ ⟨⟨fun e => absurd e (by decide), fun e => absurd e (by decide), fun _ _ => rfl⟩, ?_⟩
                  rotate_left
                  · go_simp
                    with_reducible rfl
                  · rfl
                · intro w hB
                  simp only [St.withD]
                  refine St.ob_value (v := ?_) (w' := w) (by rfl) ?_ ⟨⟨fun e => absurd e (by decide), fun e => absurd e (by decide), fun _ _ => rfl⟩, ?_⟩
                  rotate_left
                  · go_simp
                    with_reducible rfl
                  · rfl
                · intro w hB; rintro _ ⟨_, rfl⟩
                  simp only [St.withD, List.nil_append, List.cons_append, Act.put, List.setIfInBounds_toArray, List.set_cons_zero, List.set_cons_succ]
                  have hbox := hB.choose_spec.choose_spec.1.box
                  have cx2 : w.cell? ⟨gx, 2, none⟩ = some (.int .i64 nn) := (blk_cell hbox 2).trans rfl
                  have cx3 : w.cell? ⟨gx, 3, none⟩ = some (.string s) := (blk_cell hbox 3).trans rfl
                  have cx4 : w.cell? ⟨gx, 4, none⟩ = some (.slice LA L.length lc) := (blk_cell hbox 4).trans rfl
                  refine St.ob_value (v := ?_) (w' := w) (by rfl) ?_ ⟨⟨fun e => absurd e (by decide), fun e => absurd e (by decide), fun _ _ => rfl⟩, ?_⟩
                  rotate_left
                  · go_simp
                    with_reducible rfl
                  · rfl
                · intro w hB; rintro _ ⟨_, rfl⟩ _ ⟨_, rfl⟩ _ ⟨_, rfl⟩
                  simp only [St.withD, List.nil_append, List.cons_append, Act.put, List.setIfInBounds_toArray, List.set_cons_zero, List.set_cons_succ]
                  obtain ⟨p, q, hR, _, hp7⟩ := hB
                  have e := hp7 rfl
                  subst e
                  refine St.ob_call Try.func17 (by kernel_rfl) rfl #[.pointer (some ⟨b, 0, none⟩), .int .i64 nn, .string s] (by rfl) rfl (by (try simp only [List.map_toArray, List.map_cons, List.map_nil]); first | done | rfl | (simp only [List.length_drop, List.length_take]; rfl)) ?_
                  refine (apply_yn nn s (Duo.getY hR) HNE.out).mono ?_
                  rintro e w1 ⟨rfl, rfl⟩
                  refine ⟨_, rfl, ⟨fun e => absurd e (by decide), fun _ => Turned.refl (Duo.getY hR), fun _ e => absurd rfl e⟩, ?_⟩
                  rfl
                · intro w hB; rintro _ ⟨_, rfl⟩ _ ⟨_, rfl⟩
                  simp only [St.withD, List.nil_append, List.cons_append, Act.put, List.setIfInBounds_toArray, List.set_cons_zero, List.set_cons_succ]
                  refine St.ob_value (v := ?_) (w' := w) (by rfl) ?_ ⟨⟨fun e => absurd e (by decide), fun e => absurd e (by decide), fun _ _ => rfl⟩, ?_⟩
                  rotate_left
                  · go_simp
                    with_reducible rfl
                  · rfl
                · intro w hB; rintro _ ⟨_, rfl⟩
                  simp only [St.withD, List.nil_append, List.cons_append, Act.put, List.setIfInBounds_toArray, List.set_cons_zero, List.set_cons_succ]
                  refine St.ob_value (v := ?_) (w' := w) (by rfl) ?_ ⟨⟨fun e => absurd e (by decide), fun e => absurd e (by decide), fun _ _ => rfl⟩, ?_⟩
                  rotate_left
                  · go_simp
                    with_reducible rfl
                  · rfl
              case hst =>
                intro i j fl hi hj _ _ _ ds v wa wb ht _
                refine St.sts_get (Rel := fun _ _ _ => True) 0 _ j (by simpa using hj) ?_ ds v wa wb ht trivial
                exact ⟨St.eqT_st, St.eqT_st, St.eqT_st, St.eqT_st, St.eqT_st, St.eqT_st, St.eqT_st, St.eqT_st, St.eqT_st, St.eqT_st, St.eqT_st, St.eqT_st, trivial⟩
              case h0 => exact Gd.from (p := false) (q := false) HP.out.1 fam_xa fam_xa fam_yb fam_yb (below_drew1 (Below.refl _ _))
              case hB => exact fun i fl w' hi hfi _ _ hG => ⟨_, _, hG, fun e => by subst e; exact hfi, fun e => by subst e; exact hfi⟩
              case hG => (
                intro i fl wa wb hi hfi _ _ hG hR
                by_cases h3 : i = 4
                · subst h3
                  rw [hfi] at hG
                  have hk := Gd.left hG fam_xa fam_yb fam_yb (hR.1 rfl)
                  simpa [St.upB] using hk
                · by_cases h7 : i = 9
                  · subst h7
                    rw [hfi] at hG
                    have hk := Gd.right hG fam_xa fam_xa fam_yb (hR.2.1 rfl)
                    simpa [St.upB] using hk
                  · have e := hR.2.2 h3 h7
                    subst e
                    have e3 : St.upB fl i 4 = fl 4 := by unfold St.upB; rw [if_neg (Ne.symm h3)]
                    have e7 : St.upB fl i 9 = fl 9 := by unfold St.upB; rw [if_neg (Ne.symm h7)]
                    simpa only [e3, e7] using hG)
              case hend =>
                intro fl w hall hB
                rintro _ rfl _ rfl _ rfl _ rfl _ rfl _ rfl _ rfl _ rfl _ rfl _ rfl _ rfl _ rfl
                simp only [List.map_cons, List.map_nil, List.nil_append, List.cons_append, List.getD_cons_zero, List.getD_cons_succ, Act.put, List.setIfInBounds_toArray, List.set_cons_zero, List.set_cons_succ]
                rw [St.withE_nil]
                have HG : Aside0 (Gd w0.heap.size w0 (some (gx, (.cells #[.int .u8 kd, .bool false, .int .i64 nn, .string s, .slice LA L.length lc] 28 (0, 0)))) (XA w0.heap.size g md n rs ds D) (XA w0.heap.size g md n rs ds D) (YB w0.heap.size b rs ds es ts) (YB w0.heap.size b rs ds es ts) FX FY true true w) := ⟨by have h3 := hall 4 (by decide); have h7 := hall 9 (by decide); rw [h3, h7] at hB; exact hB⟩
                clear hB hall
                have HT : Aside0 (Duo w0.heap.size w0 (some (gx, (.cells #[.int .u8 kd, .bool false, .int .i64 nn, .string s, .slice LA L.length lc] 28 (0, 0)))) (XA w0.heap.size g md n rs ds D) (YB w0.heap.size b rs ds es ts) w) := ⟨HG.out⟩
                clear HG HP
                go_wp2_with fail
                go_meet
                case rel => exact ⟨rfl, n, rs, ds, D, es, ts, ⟨by have h := HM.out; omega⟩, HT, HR⟩
          · obtain ⟨Fx, hx⟩ := HT.out.exX
            go_wp2_with fail
            refine (len_x hx).mono ?_
            rintro e w3 ⟨rfl, rfl⟩
            clear hx
            go_wp2
            refine St.steadyG (n := 12) (by kernel_rfl) ([] :: [] :: [] :: [(2, 51)] :: [(0, 49), (1, 50), (3, 52)] :: [] :: [] :: [] :: [(7, 56)] :: [(5, 54), (6, 55), (8, 57)] :: [(4, 53), (9, 58)] :: [(10, 59)] :: []) (some 49 :: some 50 :: some 51 :: some 52 :: some 53 :: some 54 :: some 55 :: some 56 :: some 57 :: some 58 :: some 59 :: some 7 :: []) (by kernel_rfl) ((St.eqT ?c17_0x5) :: (St.eqT ?c17_1x5) :: (St.eqT ?c17_2x5) :: (St.eqT ?c17_3x5) :: (St.eqT ?c17_4x5) :: (St.eqT ?c17_5x5) :: (St.eqT ?c17_6x5) :: (St.eqT ?c17_7x5) :: (St.eqT ?c17_8x5) :: (St.eqT ?c17_9x5) :: (St.eqT ?c17_10x5) :: (St.eqT ?c17_11x5) :: []) rfl (by rfl) (fun fl w' => Gd w0.heap.size w0 (some (gx, (.cells #[.int .u8 kd, .bool true, .int .i64 nn, .string s, .slice LA L.length lc] 28 (0, 0)))) (XA w0.heap.size g md n rs ds D) (XA w0.heap.size g md n (rs ++ [s]) ds D) (YB w0.heap.size b rs ds es ts) (YB w0.heap.size b (rs ++ [s]) ds es ts) FX FY (fl 4) (fl 9) w') (fun i wa wb => (i = 4 → Turned (XA w0.heap.size g md n (rs ++ [s]) ds D) FX wa wb) ∧ (i = 9 → Turned (YB w0.heap.size b (rs ++ [s]) ds es ts) FY wa wb) ∧ (i ≠ 4 → i ≠ 9 → wa = wb)) ?hst ?h0 (fun i w' => ∃ p q, Gd w0.heap.size w0 (some (gx, (.cells #[.int .u8 kd, .bool true, .int .i64 nn, .string s, .slice LA L.length lc] 28 (0, 0)))) (XA w0.heap.size g md n rs ds D) (XA w0.heap.size g md n (rs ++ [s]) ds D) (YB w0.heap.size b rs ds es ts) (YB w0.heap.size b (rs ++ [s]) ds es ts) FX FY p q w' ∧ (i = 4 → p = false) ∧ (i = 9 → q = false)) ?hB ?hG ?hop ?hend
            case hop =>
              refine ⟨?_, ?_, ?_, ?_, ?_, ?_, ?_, ?_, ?_, ?_, ?_, ?_, trivial⟩
              · intro w hB
                simp only [St.withD]
                refine St.ob_value (v := ?_) (w' := w) (by rfl) ?_ ⟨⟨fun e => absurd e (by decide), fun e => absurd e (by decide), fun _ _ => rfl⟩, ?_⟩
                rotate_left
                · go_simp
                  with_reducible rfl
                · rfl
              · intro w hB
                simp only [St.withD]
                refine St.ob_value (v := ?_) (w' := w) (by rfl) ?_ ⟨⟨fun e => absurd e (by decide), fun e => absurd e (by decide), fun _ _ => rfl⟩, ?_⟩
                rotate_left
                · go_simp
                  with_reducible rfl
                · rfl
              · intro w hB
                simp only [St.withD]
                refine St.ob_value (v := ?_) (w' := w) (by rfl) ?_ ⟨⟨fun e => absurd e (by decide), fun e => absurd e (by decide), fun _ _ => rfl⟩, ?_⟩
                rotate_left
                · go_simp
                  with_reducible rfl
                · rfl
              · intro w hB; rintro _ ⟨_, rfl⟩
                simp only [St.withD, List.nil_append, List.cons_append, Act.put, List.setIfInBounds_toArray, List.set_cons_zero, List.set_cons_succ]
                have hbox := hB.choose_spec.choose_spec.1.box
                have cx2 : w.cell? ⟨gx, 2, none⟩ = some (.int .i64 nn) := (blk_cell hbox 2).trans rfl
                have cx3 : w.cell? ⟨gx, 3, none⟩ = some (.string s) := (blk_cell hbox 3).trans rfl
                have cx4 : w.cell? ⟨gx, 4, none⟩ = some (.slice LA L.length lc) := (blk_cell hbox 4).trans rfl
                refine St.ob_value (v := ?_) (w' := w) (by rfl) ?_ ⟨⟨fun e => absurd e (by decide), fun e => absurd e (by decide), fun _ _ => rfl⟩, ?_⟩
                rotate_left
                · go_simp
                  with_reducible rfl
                · rfl
              · intro w hB; rintro _ ⟨_, rfl⟩ _ ⟨_, rfl⟩ _ ⟨_, rfl⟩
                simp only [St.withD, List.nil_append, List.cons_append, Act.put, List.setIfInBounds_toArray, List.set_cons_zero, List.set_cons_succ]
                obtain ⟨p, q, hR, hp3, _⟩ := hB
                have e := hp3 rfl
                subst e
                refine St.ob_call Try.func9 (by kernel_rfl) rfl #[.pointer (some ⟨g, 0, none⟩), .int .i64 (rs.length : Int), .string s] (by rfl) rfl (by (try simp only [List.map_toArray, List.map_cons, List.map_nil]); first | done | rfl | (simp only [List.length_drop, List.length_take]; rfl)) ?_
                refine (apply_x (rs.length : Int) s (Duo.getX hR) (Gd.hB hR) rfl (by have := HM.out.1; omega)).mono ?_
                rintro e w1 ⟨rfl, ht⟩
                refine ⟨_, rfl, ⟨fun _ => ht, fun e => absurd e (by decide), fun e => absurd rfl e⟩, ?_⟩
                rfl
              · intro w hB
                simp only [St.withD]
                refine St.ob_value (v := ?_) (w' := w) (by rfl) ?_ ⟨⟨fun e => absurd e (by decide), fun e => absurd e (by decide), fun _ _ => rfl⟩, ?_⟩
                rotate_left
                · go_simp
                  with_reducible rfl
                · rfl
              · intro w hB
                simp only [St.withD]
                refine St.ob_value (v := ?_) (w' := w) (by rfl) ?_ ⟨⟨fun e => absurd e (by decide), fun e => absurd e (by decide), fun _ _ => rfl⟩, ?_⟩
                rotate_left
                · go_simp
                  with_reducible rfl
                · rfl
              · intro w hB
                simp only [St.withD]
                refine St.ob_value (v := ?_) (w' := w) (by rfl) ?_ ⟨⟨fun e => absurd e (by decide), fun e => absurd e (by decide), fun _ _ => rfl⟩, ?_⟩
                rotate_left
                · go_simp
                  with_reducible rfl
                · rfl
              · intro w hB; rintro _ ⟨_, rfl⟩
                simp only [St.withD, List.nil_append, List.cons_append, Act.put, List.setIfInBounds_toArray, List.set_cons_zero, List.set_cons_succ]
                have hbox := hB.choose_spec.choose_spec.1.box
                have cx2 : w.cell? ⟨gx, 2, none⟩ = some (.int .i64 nn) := (blk_cell hbox 2).trans rfl
                have cx3 : w.cell? ⟨gx, 3, none⟩ = some (.string s) := (blk_cell hbox 3).trans rfl
                have cx4 : w.cell? ⟨gx, 4, none⟩ = some (.slice LA L.length lc) := (blk_cell hbox 4).trans rfl
                refine St.ob_value (v := ?_) (w' := w) (by rfl) ?_ ⟨⟨fun e => absurd e (by decide), fun e => absurd e (by decide), fun _ _ => rfl⟩, ?_⟩
                rotate_left
                · go_simp
                  with_reducible rfl
                · rfl
              · intro w hB; rintro _ ⟨_, rfl⟩ _ ⟨_, rfl⟩ _ ⟨_, rfl⟩
                simp only [St.withD, List.nil_append, List.cons_append, Act.put, List.setIfInBounds_toArray, List.set_cons_zero, List.set_cons_succ]
                obtain ⟨p, q, hR, _, hp7⟩ := hB
                have e := hp7 rfl
                subst e
                refine St.ob_call Try.func17 (by kernel_rfl) rfl #[.pointer (some ⟨b, 0, none⟩), .int .i64 (rs.length : Int), .string s] (by rfl) rfl (by (try simp only [List.map_toArray, List.map_cons, List.map_nil]); first | done | rfl | (simp only [List.length_drop, List.length_take]; rfl)) ?_
                refine (apply_y (rs.length : Int) s (Duo.getY hR) (Gd.hB hR) rfl (by have := HM.out.1; omega)).mono ?_
                rintro e w1 ⟨rfl, ht⟩
                refine ⟨_, rfl, ⟨fun e => absurd e (by decide), fun _ => ht, fun _ e => absurd rfl e⟩, ?_⟩
                rfl
              · intro w hB; rintro _ ⟨_, rfl⟩ _ ⟨_, rfl⟩
                simp only [St.withD, List.nil_append, List.cons_append, Act.put, List.setIfInBounds_toArray, List.set_cons_zero, List.set_cons_succ]
                refine St.ob_value (v := ?_) (w' := w) (by rfl) ?_ ⟨⟨fun e => absurd e (by decide), fun e => absurd e (by decide), fun _ _ => rfl⟩, ?_⟩
                rotate_left
                · go_simp
                  with_reducible rfl
                · rfl
              · intro w hB; rintro _ ⟨_, rfl⟩
                simp only [St.withD, List.nil_append, List.cons_append, Act.put, List.setIfInBounds_toArray, List.set_cons_zero, List.set_cons_succ]
                refine St.ob_value (v := ?_) (w' := w) (by rfl) ?_ ⟨⟨fun e => absurd e (by decide), fun e => absurd e (by decide), fun _ _ => rfl⟩, ?_⟩
                rotate_left
                · go_simp
                  with_reducible rfl
                · rfl
            case hst =>
              intro i j fl hi hj _ _ _ ds v wa wb ht _
              refine St.sts_get (Rel := fun _ _ _ => True) 0 _ j (by simpa using hj) ?_ ds v wa wb ht trivial
              exact ⟨St.eqT_st, St.eqT_st, St.eqT_st, St.eqT_st, St.eqT_st, St.eqT_st, St.eqT_st, St.eqT_st, St.eqT_st, St.eqT_st, St.eqT_st, St.eqT_st, trivial⟩
            case h0 => exact Gd.from (p := false) (q := false) HP.out.1 fam_xa fam_xa fam_yb fam_yb (below_drew1 (Below.refl _ _))
            case hB => exact fun i fl w' hi hfi _ _ hG => ⟨_, _, hG, fun e => by subst e; exact hfi, fun e => by subst e; exact hfi⟩
            case hG => (
              intro i fl wa wb hi hfi _ _ hG hR
              by_cases h3 : i = 4
              · subst h3
                rw [hfi] at hG
                have hk := Gd.left hG fam_xa fam_yb fam_yb (hR.1 rfl)
                simpa [St.upB] using hk
              · by_cases h7 : i = 9
                · subst h7
                  rw [hfi] at hG
                  have hk := Gd.right hG fam_xa fam_xa fam_yb (hR.2.1 rfl)
                  simpa [St.upB] using hk
                · have e := hR.2.2 h3 h7
                  subst e
                  have e3 : St.upB fl i 4 = fl 4 := by unfold St.upB; rw [if_neg (Ne.symm h3)]
                  have e7 : St.upB fl i 9 = fl 9 := by unfold St.upB; rw [if_neg (Ne.symm h7)]
                  simpa only [e3, e7] using hG)
            case hend =>
              intro fl w hall hB
              rintro _ rfl _ rfl _ rfl _ rfl _ rfl _ rfl _ rfl _ rfl _ rfl _ rfl _ rfl _ rfl
              simp only [List.map_cons, List.map_nil, List.nil_append, List.cons_append, List.getD_cons_zero, List.getD_cons_succ, Act.put, List.setIfInBounds_toArray, List.set_cons_zero, List.set_cons_succ]
              rw [St.withE_nil]
              have HG : Aside0 (Gd w0.heap.size w0 (some (gx, (.cells #[.int .u8 kd, .bool true, .int .i64 nn, .string s, .slice LA L.length lc] 28 (0, 0)))) (XA w0.heap.size g md n rs ds D) (XA w0.heap.size g md n (rs ++ [s]) ds D) (YB w0.heap.size b rs ds es ts) (YB w0.heap.size b (rs ++ [s]) ds es ts) FX FY true true w) := ⟨by have h3 := hall 4 (by decide); have h7 := hall 9 (by decide); rw [h3, h7] at hB; exact hB⟩
              clear hB hall
              have HT : Aside0 (Duo w0.heap.size w0 (some (gx, (.cells #[.int .u8 kd, .bool true, .int .i64 nn, .string s, .slice LA L.length lc] 28 (0, 0)))) (XA w0.heap.size g md n (rs ++ [s]) ds D) (YB w0.heap.size b (rs ++ [s]) ds es ts) w) := ⟨HG.out⟩
              clear HG HP
              go_wp2_with fail
              go_meet
              case rel => exact ⟨rfl, n, rs ++ [s], ds, D, es, ts, ⟨by have h := HM.out; simp only [List.length_append, List.length_cons, List.length_nil]; omega⟩, HT, HR⟩
        · have hq0 : (kd % 6 == 0) = false := beq_eq_false_iff_ne.2 (by omega)
          have pq0 : (kd.tmod 6 == 0) = false := beq_eq_false_iff_ne.2 (by rw [ht6]; omega)
          have hq1 : (kd % 6 == 1) = true := beq_iff_eq.2 (by omega)
          have pq1 : (kd.tmod 6 == 1) = true := beq_iff_eq.2 (by rw [ht6]; omega)
          clear hm hk0 hk1 ht6
          obtain ⟨FX, FY, _, _, hp⟩ := PIN.out
          have HP := Aside0.mk (And.intro hp True.intro)
          clear hp PIN cx1 cx2
          by_cases hll : L.length ≤ rs.length
          · go_wp2
            refine St.steadyG (n := 10) (by kernel_rfl) ([] :: [] :: [(1, 63)] :: [(0, 62), (2, 64)] :: [] :: [] :: [(5, 67)] :: [(4, 66), (6, 68)] :: [(3, 65), (7, 69)] :: [(8, 70)] :: []) (some 62 :: some 63 :: some 64 :: some 65 :: some 66 :: some 67 :: some 68 :: some 69 :: some 70 :: some 7 :: []) (by kernel_rfl) ((St.eqT ?c19_0x7) :: (St.eqT ?c19_1x7) :: (St.eqT ?c19_2x7) :: (St.eqT ?c19_3x7) :: (St.eqT ?c19_4x7) :: (St.eqT ?c19_5x7) :: (St.eqT ?c19_6x7) :: (St.eqT ?c19_7x7) :: (St.eqT ?c19_8x7) :: (St.eqT ?c19_9x7) :: []) rfl (by rfl) (fun fl w' => Gd w0.heap.size w0 (some (gx, (.cells #[.int .u8 kd, .bool nx, .int .i64 nn, .string s, .slice LA L.length lc] 28 (0, 0)))) (XA w0.heap.size g md n rs ds D) (XA w0.heap.size g md n rs ds D) (YB w0.heap.size b rs ds es ts) (YB w0.heap.size b rs ds es ts) FX FY (fl 3) (fl 7) w') (fun i wa wb => (i = 3 → Turned (XA w0.heap.size g md n rs ds D) FX wa wb) ∧ (i = 7 → Turned (YB w0.heap.size b rs ds es ts) FY wa wb) ∧ (i ≠ 3 → i ≠ 7 → wa = wb)) ?hst ?h0 (fun i w' => ∃ p q, Gd w0.heap.size w0 (some (gx, (.cells #[.int .u8 kd, .bool nx, .int .i64 nn, .string s, .slice LA L.length lc] 28 (0, 0)))) (XA w0.heap.size g md n rs ds D) (XA w0.heap.size g md n rs ds D) (YB w0.heap.size b rs ds es ts) (YB w0.heap.size b rs ds es ts) FX FY p q w' ∧ (i = 3 → p = false) ∧ (i = 7 → q = false)) ?hB ?hG ?hop ?hend
            case hop =>
              refine ⟨?_, ?_, ?_, ?_, ?_, ?_, ?_, ?_, ?_, ?_, trivial⟩
              · intro w hB
                simp only [St.withD]
                refine St.ob_value (v := ?_) (w' := w) (by rfl) ?_ ⟨⟨fun e => absurd e (by decide), fun e => absurd e (by decide), fun _ _ => rfl⟩, ?_⟩
                rotate_left
                · go_simp
                  with_reducible rfl
                · rfl
              · intro w hB
                simp only [St.withD]
                refine St.ob_value (v := ?_) (w' := w) (by rfl) ?_ ⟨⟨fun e => absurd e (by decide), fun e => absurd e (by decide), fun _ _ => rfl⟩, ?_⟩
                rotate_left
                · go_simp
                  with_reducible rfl
                · rfl
              · intro w hB; rintro _ ⟨_, rfl⟩
                simp only [St.withD, List.nil_append, List.cons_append, Act.put, List.setIfInBounds_toArray, List.set_cons_zero, List.set_cons_succ]
                have hbox := hB.choose_spec.choose_spec.1.box
                have cx2 : w.cell? ⟨gx, 2, none⟩ = some (.int .i64 nn) := (blk_cell hbox 2).trans rfl
                have cx3 : w.cell? ⟨gx, 3, none⟩ = some (.string s) := (blk_cell hbox 3).trans rfl
                have cx4 : w.cell? ⟨gx, 4, none⟩ = some (.slice LA L.length lc) := (blk_cell hbox 4).trans rfl
                refine St.ob_value (v := ?_) (w' := w) (by rfl) ?_ ⟨⟨fun e => absurd e (by decide), fun e => absurd e (by decide), fun _ _ => rfl⟩, ?_⟩
                rotate_left
                · go_simp
                  with_reducible rfl
                · rfl
              · intro w hB; rintro _ ⟨_, rfl⟩ _ ⟨_, rfl⟩
                simp only [St.withD, List.nil_append, List.cons_append, Act.put, List.setIfInBounds_toArray, List.set_cons_zero, List.set_cons_succ]
                obtain ⟨p, q, hR, hp3, _⟩ := hB
                have e := hp3 rfl
                subst e
                refine St.ob_call Try.func10 (by kernel_rfl) rfl #[.pointer (some ⟨g, 0, none⟩), .slice LA L.length lc] (by rfl) rfl (by (try simp only [List.map_toArray, List.map_cons, List.map_nil]); first | done | rfl | (simp only [List.length_drop, List.length_take]; rfl)) ?_
                refine (load_xn LA L.length lc (Duo.getX hR) hll).mono ?_
                rintro e w1 ⟨rfl, rfl⟩
                refine ⟨_, rfl, ⟨fun _ => Turned.refl (Duo.getX hR), fun e => absurd e (by decide), fun e => absurd rfl e⟩, ?_⟩
                rfl
              · intro w hB
                simp only [St.withD]
                refine St.ob_value (v := ?_) (w' := w) (by rfl) ?_ ⟨⟨fun e => absurd e (by decide), fun e => absurd e (by decide), fun _ _ => rfl⟩, ?_⟩
                rotate_left
                · go_simp
                  with_reducible rfl
                · rfl
              · intro w hB
                simp only [St.withD]
                refine St.ob_value (v := ?_) (w' := w) (by rfl) ?_ ⟨⟨fun e => absurd e (by decide), fun e => absurd e (by decide), fun _ _ => rfl⟩, ?_⟩
                rotate_left
                · go_simp
                  with_reducible rfl
                · rfl
              · intro w hB; rintro _ ⟨_, rfl⟩
                simp only [St.withD, List.nil_append, List.cons_append, Act.put, List.setIfInBounds_toArray, List.set_cons_zero, List.set_cons_succ]
                have hbox := hB.choose_spec.choose_spec.1.box
                have cx2 : w.cell? ⟨gx, 2, none⟩ = some (.int .i64 nn) := (blk_cell hbox 2).trans rfl
                have cx3 : w.cell? ⟨gx, 3, none⟩ = some (.string s) := (blk_cell hbox 3).trans rfl
                have cx4 : w.cell? ⟨gx, 4, none⟩ = some (.slice LA L.length lc) := (blk_cell hbox 4).trans rfl
                refine St.ob_value (v := ?_) (w' := w) (by rfl) ?_ ⟨⟨fun e => absurd e (by decide), fun e => absurd e (by decide), fun _ _ => rfl⟩, ?_⟩
                rotate_left
                · go_simp
                  with_reducible rfl
                · rfl
              · intro w hB; rintro _ ⟨_, rfl⟩ _ ⟨_, rfl⟩
                simp only [St.withD, List.nil_append, List.cons_append, Act.put, List.setIfInBounds_toArray, List.set_cons_zero, List.set_cons_succ]
                obtain ⟨p, q, hR, _, hp7⟩ := hB
                have e := hp7 rfl
                subst e
                refine St.ob_call Try.func18 (by kernel_rfl) rfl #[.pointer (some ⟨b, 0, none⟩), .slice LA L.length lc] (by rfl) rfl (by (try simp only [List.map_toArray, List.map_cons, List.map_nil]); first | done | rfl | (simp only [List.length_drop, List.length_take]; rfl)) ?_
                refine (load_yn LA L.length lc (Duo.getY hR) hll).mono ?_
                rintro e w1 ⟨rfl, rfl⟩
                refine ⟨_, rfl, ⟨fun e => absurd e (by decide), fun _ => Turned.refl (Duo.getY hR), fun _ e => absurd rfl e⟩, ?_⟩
                rfl
              · intro w hB; rintro _ ⟨_, rfl⟩ _ ⟨_, rfl⟩
                simp only [St.withD, List.nil_append, List.cons_append, Act.put, List.setIfInBounds_toArray, List.set_cons_zero, List.set_cons_succ]
                refine St.ob_value (v := ?_) (w' := w) (by rfl) ?_ ⟨⟨fun e => absurd e (by decide), fun e => absurd e (by decide), fun _ _ => rfl⟩, ?_⟩
                rotate_left
                · go_simp
                  with_reducible rfl
                · rfl
              · intro w hB; rintro _ ⟨_, rfl⟩
                simp only [St.withD, List.nil_append, List.cons_append, Act.put, List.setIfInBounds_toArray, List.set_cons_zero, List.set_cons_succ]
                refine St.ob_value (v := ?_) (w' := w) (by rfl) ?_ ⟨⟨fun e => absurd e (by decide), fun e => absurd e (by decide), fun _ _ => rfl⟩, ?_⟩
                rotate_left
                · go_simp
                  with_reducible rfl
                · rfl
            case hst =>
              intro i j fl hi hj _ _ _ ds v wa wb ht _
              refine St.sts_get (Rel := fun _ _ _ => True) 0 _ j (by simpa using hj) ?_ ds v wa wb ht trivial
              exact ⟨St.eqT_st, St.eqT_st, St.eqT_st, St.eqT_st, St.eqT_st, St.eqT_st, St.eqT_st, St.eqT_st, St.eqT_st, St.eqT_st, trivial⟩
            case h0 => exact Gd.from (p := false) (q := false) HP.out.1 fam_xa fam_xa fam_yb fam_yb (below_drew1 (Below.refl _ _))
            case hB => exact fun i fl w' hi hfi _ _ hG => ⟨_, _, hG, fun e => by subst e; exact hfi, fun e => by subst e; exact hfi⟩
            case hG => (
              intro i fl wa wb hi hfi _ _ hG hR
              by_cases h3 : i = 3
              · subst h3
                rw [hfi] at hG
                have hk := Gd.left hG fam_xa fam_yb fam_yb (hR.1 rfl)
                simpa [St.upB] using hk
              · by_cases h7 : i = 7
                · subst h7
                  rw [hfi] at hG
                  have hk := Gd.right hG fam_xa fam_xa fam_yb (hR.2.1 rfl)
                  simpa [St.upB] using hk
                · have e := hR.2.2 h3 h7
                  subst e
                  have e3 : St.upB fl i 3 = fl 3 := by unfold St.upB; rw [if_neg (Ne.symm h3)]
                  have e7 : St.upB fl i 7 = fl 7 := by unfold St.upB; rw [if_neg (Ne.symm h7)]
                  simpa only [e3, e7] using hG)
            case hend =>
              intro fl w hall hB
              rintro _ rfl _ rfl _ rfl _ rfl _ rfl _ rfl _ rfl _ rfl _ rfl _ rfl
              simp only [List.map_cons, List.map_nil, List.nil_append, List.cons_append, List.getD_cons_zero, List.getD_cons_succ, Act.put, List.setIfInBounds_toArray, List.set_cons_zero, List.set_cons_succ]
              rw [St.withE_nil]
              have HG : Aside0 (Gd w0.heap.size w0 (some (gx, (.cells #[.int .u8 kd, .bool nx, .int .i64 nn, .string s, .slice LA L.length lc] 28 (0, 0)))) (XA w0.heap.size g md n rs ds D) (XA w0.heap.size g md n rs ds D) (YB w0.heap.size b rs ds es ts) (YB w0.heap.size b rs ds es ts) FX FY true true w) := ⟨by have h3 := hall 3 (by decide); have h7 := hall 7 (by decide); rw [h3, h7] at hB; exact hB⟩
              clear hB hall
              have HT : Aside0 (Duo w0.heap.size w0 (some (gx, (.cells #[.int .u8 kd, .bool nx, .int .i64 nn, .string s, .slice LA L.length lc] 28 (0, 0)))) (XA w0.heap.size g md n rs ds D) (YB w0.heap.size b rs ds es ts) w) := ⟨HG.out⟩
              clear HG HP
              go_wp2_with fail
              go_meet
              case rel => exact ⟨rfl, n, rs, ds, D, es, ts, ⟨by have h := HM.out; omega⟩, HT, HR⟩
          · go_wp2
            refine St.steadyG (n := 10) (by kernel_rfl) ([] :: [] :: [(1, 63)] :: [(0, 62), (2, 64)] :: [] :: [] :: [(5, 67)] :: [(4, 66), (6, 68)] :: [(3, 65), (7, 69)] :: [(8, 70)] :: []) (some 62 :: some 63 :: some 64 :: some 65 :: some 66 :: some 67 :: some 68 :: some 69 :: some 70 :: some 7 :: []) (by kernel_rfl) ((St.eqT ?c19_0x6) :: (St.eqT ?c19_1x6) :: (St.eqT ?c19_2x6) :: (St.eqT ?c19_3x6) :: (St.eqT ?c19_4x6) :: (St.eqT ?c19_5x6) :: (St.eqT ?c19_6x6) :: (St.eqT ?c19_7x6) :: (St.eqT ?c19_8x6) :: (St.eqT ?c19_9x6) :: []) rfl (by rfl) (fun fl w' => Gd w0.heap.size w0 (some (gx, (.cells #[.int .u8 kd, .bool nx, .int .i64 nn, .string s, .slice LA L.length lc] 28 (0, 0)))) (XA w0.heap.size g md n rs ds D) (XA w0.heap.size g md n L ds D) (YB w0.heap.size b rs ds es ts) (YB w0.heap.size b L ds es ts) FX FY (fl 3) (fl 7) w') (fun i wa wb => (i = 3 → Turned (XA w0.heap.size g md n L ds D) FX wa wb) ∧ (i = 7 → Turned (YB w0.heap.size b L ds es ts) FY wa wb) ∧ (i ≠ 3 → i ≠ 7 → wa = wb)) ?hst ?h0 (fun i w' => ∃ p q, Gd w0.heap.size w0 (some (gx, (.cells #[.int .u8 kd, .bool nx, .int .i64 nn, .string s, .slice LA L.length lc] 28 (0, 0)))) (XA w0.heap.size g md n rs ds D) (XA w0.heap.size g md n L ds D) (YB w0.heap.size b rs ds es ts) (YB w0.heap.size b L ds es ts) FX FY p q w' ∧ (i = 3 → p = false) ∧ (i = 7 → q = false)) ?hB ?hG ?hop ?hend
            case hop =>
              refine ⟨?_, ?_, ?_, ?_, ?_, ?_, ?_, ?_, ?_, ?_, trivial⟩
              · intro w hB
                simp only [St.withD]
                refine St.ob_value (v := ?_) (w' := w) (by rfl) ?_ ⟨⟨fun e => absurd e (by decide), fun e => absurd e (by decide), fun _ _ => rfl⟩, ?_⟩
                rotate_left
                · go_simp
                  with_reducible rfl
                · rfl
              · intro w hB
                simp only [St.withD]
                refine St.ob_value (v := ?_) (w' := w) (by rfl) ?_ ⟨⟨fun e => absurd e (by decide), fun e => absurd e (by decide), fun _ _ => rfl⟩, ?_⟩
                rotate_left
                · go_simp
                  with_reducible rfl
                · rfl
              · intro w hB; rintro _ ⟨_, rfl⟩
                simp only [St.withD, List.nil_append, List.cons_append, Act.put, List.setIfInBounds_toArray, List.set_cons_zero, List.set_cons_succ]
                have hbox := hB.choose_spec.choose_spec.1.box
                have cx2 : w.cell? ⟨gx, 2, none⟩ = some (.int .i64 nn) := (blk_cell hbox 2).trans rfl
                have cx3 : w.cell? ⟨gx, 3, none⟩ = some (.string s) := (blk_cell hbox 3).trans rfl
                have cx4 : w.cell? ⟨gx, 4, none⟩ = some (.slice LA L.length lc) := (blk_cell hbox 4).trans rfl
                refine St.ob_value (v := ?_) (w' := w) (by rfl) ?_ ⟨⟨fun e => absurd e (by decide), fun e => absurd e (by decide), fun _ _ => rfl⟩, ?_⟩
                rotate_left
                · go_simp
                  with_reducible rfl
                · rfl
              · intro w hB; rintro _ ⟨_, rfl⟩ _ ⟨_, rfl⟩
                simp only [St.withD, List.nil_append, List.cons_append, Act.put, List.setIfInBounds_toArray, List.set_cons_zero, List.set_cons_succ]
                obtain ⟨p, q, hR, hp3, _⟩ := hB
                have e := hp3 rfl
                subst e
                refine St.ob_call Try.func10 (by kernel_rfl) rfl #[.pointer (some ⟨g, 0, none⟩), .slice LA L.length lc] (by rfl) rfl (by (try simp only [List.map_toArray, List.map_cons, List.map_nil]); first | done | rfl | (simp only [List.length_drop, List.length_take]; rfl)) ?_
                refine (load_x LA lc L (Duo.getX hR) (Gd.hB hR) (HQ.out.2.below (Duo.bel hR)) (by omega) (by omega)).mono ?_
                rintro e w1 ⟨rfl, ht⟩
                refine ⟨_, rfl, ⟨fun _ => ht, fun e => absurd e (by decide), fun e => absurd rfl e⟩, ?_⟩
                rfl
              · intro w hB
                simp only [St.withD]
                refine St.ob_value (v := ?_) (w' := w) (by rfl) ?_ ⟨⟨fun e => absurd e (by decide), fun e => absurd e (by decide), fun _ _ => rfl⟩, ?_⟩
                rotate_left
                · go_simp
                  with_reducible rfl
                · rfl
              · intro w hB
                simp only [St.withD]
                refine St.ob_value (v := ?_) (w' := w) (by rfl) ?_ ⟨⟨fun e => absurd e (by decide), fun e => absurd e (by decide), fun _ _ => rfl⟩, ?_⟩
                rotate_left
                · go_simp
                  with_reducible rfl
                · rfl
              · intro w hB; rintro _ ⟨_, rfl⟩
                simp only [St.withD, List.nil_append, List.cons_append, Act.put, List.setIfInBounds_toArray, List.set_cons_zero, List.set_cons_succ]
                have hbox := hB.choose_spec.choose_spec.1.box
                have cx2 : w.cell? ⟨gx, 2, none⟩ = some (.int .i64 nn) := (blk_cell hbox 2).trans rfl
                have cx3 : w.cell? ⟨gx, 3, none⟩ = some (.string s) := (blk_cell hbox 3).trans rfl
                have cx4 : w.cell? ⟨gx, 4, none⟩ = some (.slice LA L.length lc) := (blk_cell hbox 4).trans rfl
                refine St.ob_value (v := ?_) (w' := w) (by rfl) ?_ ⟨⟨fun e => absurd e (by decide), fun e => absurd e (by decide), fun _ _ => rfl⟩, ?_⟩
                rotate_left
                · go_simp
                  with_reducible rfl
                · rfl
              · intro w hB; rintro _ ⟨_, rfl⟩ _ ⟨_, rfl⟩
                simp only [St.withD, List.nil_append, List.cons_append, Act.put, List.setIfInBounds_toArray, List.set_cons_zero, List.set_cons_succ]
                obtain ⟨p, q, hR, _, hp7⟩ := hB
                have e := hp7 rfl
                subst e
                refine St.ob_call Try.func18 (by kernel_rfl) rfl #[.pointer (some ⟨b, 0, none⟩), .slice LA L.length lc] (by rfl) rfl (by (try simp only [List.map_toArray, List.map_cons, List.map_nil]); first | done | rfl | (simp only [List.length_drop, List.length_take]; rfl)) ?_
                refine (load_y LA lc L (Duo.getY hR) (Gd.hB hR) (HQ.out.2.below (Duo.bel hR)) (by omega) (by omega)).mono ?_
                rintro e w1 ⟨rfl, ht⟩
                refine ⟨_, rfl, ⟨fun e => absurd e (by decide), fun _ => ht, fun _ e => absurd rfl e⟩, ?_⟩
                rfl
              · intro w hB; rintro _ ⟨_, rfl⟩ _ ⟨_, rfl⟩
                simp only [St.withD, List.nil_append, List.cons_append, Act.put, List.setIfInBounds_toArray, List.set_cons_zero, List.set_cons_succ]
                refine St.ob_value (v := ?_) (w' := w) (by rfl) ?_ ⟨⟨fun e => absurd e (by decide), fun e => absurd e (by decide), fun _ _ => rfl⟩, ?_⟩
                rotate_left
                · go_simp
                  with_reducible rfl
                · rfl
              · intro w hB; rintro _ ⟨_, rfl⟩
                simp only [St.withD, List.nil_append, List.cons_append, Act.put, List.setIfInBounds_toArray, List.set_cons_zero, List.set_cons_succ]
                refine St.ob_value (v := ?_) (w' := w) (by rfl) ?_ ⟨⟨fun e => absurd e (by decide), fun e => absurd e (by decide), fun _ _ => rfl⟩, ?_⟩
                rotate_left
                · go_simp
                  with_reducible rfl
                · rfl
            case hst =>
              intro i j fl hi hj _ _ _ ds v wa wb ht _
              refine St.sts_get (Rel := fun _ _ _ => True) 0 _ j (by simpa using hj) ?_ ds v wa wb ht trivial
              exact ⟨St.eqT_st, St.eqT_st, St.eqT_st, St.eqT_st, St.eqT_st, St.eqT_st, St.eqT_st, St.eqT_st, St.eqT_st, St.eqT_st, trivial⟩
            case h0 => exact Gd.from (p := false) (q := false) HP.out.1 fam_xa fam_xa fam_yb fam_yb (below_drew1 (Below.refl _ _))
            case hB => exact fun i fl w' hi hfi _ _ hG => ⟨_, _, hG, fun e => by subst e; exact hfi, fun e => by subst e; exact hfi⟩
            case hG => (
              intro i fl wa wb hi hfi _ _ hG hR
              by_cases h3 : i = 3
              · subst h3
                rw [hfi] at hG
                have hk := Gd.left hG fam_xa fam_yb fam_yb (hR.1 rfl)
                simpa [St.upB] using hk
              · by_cases h7 : i = 7
                · subst h7
                  rw [hfi] at hG
                  have hk := Gd.right hG fam_xa fam_xa fam_yb (hR.2.1 rfl)
                  simpa [St.upB] using hk
                · have e := hR.2.2 h3 h7
                  subst e
                  have e3 : St.upB fl i 3 = fl 3 := by unfold St.upB; rw [if_neg (Ne.symm h3)]
                  have e7 : St.upB fl i 7 = fl 7 := by unfold St.upB; rw [if_neg (Ne.symm h7)]
                  simpa only [e3, e7] using hG)
            case hend =>
              intro fl w hall hB
              rintro _ rfl _ rfl _ rfl _ rfl _ rfl _ rfl _ rfl _ rfl _ rfl _ rfl
              simp only [List.map_cons, List.map_nil, List.nil_append, List.cons_append, List.getD_cons_zero, List.getD_cons_succ, Act.put, List.setIfInBounds_toArray, List.set_cons_zero, List.set_cons_succ]
              rw [St.withE_nil]
              have HG : Aside0 (Gd w0.heap.size w0 (some (gx, (.cells #[.int .u8 kd, .bool nx, .int .i64 nn, .string s, .slice LA L.length lc] 28 (0, 0)))) (XA w0.heap.size g md n rs ds D) (XA w0.heap.size g md n L ds D) (YB w0.heap.size b rs ds es ts) (YB w0.heap.size b L ds es ts) FX FY true true w) := ⟨by have h3 := hall 3 (by decide); have h7 := hall 7 (by decide); rw [h3, h7] at hB; exact hB⟩
              clear hB hall
              have HT : Aside0 (Duo w0.heap.size w0 (some (gx, (.cells #[.int .u8 kd, .bool nx, .int .i64 nn, .string s, .slice LA L.length lc] 28 (0, 0)))) (XA w0.heap.size g md n L ds D) (YB w0.heap.size b L ds es ts) w) := ⟨HG.out⟩
              clear HG HP
              go_wp2_with fail
              go_meet
              case rel => exact ⟨rfl, n, L, ds, D, es, ts, ⟨by have h := HM.out; omega⟩, HT, HR⟩
        · have hq0 : (kd % 6 == 0) = false := beq_eq_false_iff_ne.2 (by omega)
          have pq0 : (kd.tmod 6 == 0) = false := beq_eq_false_iff_ne.2 (by rw [ht6]; omega)
          have hq1 : (kd % 6 == 1) = false := beq_eq_false_iff_ne.2 (by omega)
          have pq1 : (kd.tmod 6 == 1) = false := beq_eq_false_iff_ne.2 (by rw [ht6]; omega)
          have hq2 : (kd % 6 == 2) = true := beq_iff_eq.2 (by omega)
          have pq2 : (kd.tmod 6 == 2) = true := beq_iff_eq.2 (by rw [ht6]; omega)
          clear hm hk0 hk1 ht6
          clear PIN cx1 cx2
          obtain ⟨FX, hx, hgo⟩ := HT.out.goX fam_xa fam_yb
          have HG := Aside0.mk hgo
          go_wp2_with fail
          refine (sync_x hx HT.out.hB (by have := HM.out.1; omega)).mono ?_
          rintro e w3 ⟨rfl, ht⟩
          have zz_HT := Aside0.mk (HG.out _ _ ht); clear HT; have HT := zz_HT; clear zz_HT
          clear hx hgo ht HG
          obtain ⟨FY, hy, hgo⟩ := HT.out.goY fam_xa fam_yb
          have HG := Aside0.mk hgo
          go_wp2_with fail
          refine (sync_y hy HT.out.hB (by have := HM.out.1; omega)).mono ?_
          rintro e w4 ⟨rfl, ht⟩
          have zz_HT := Aside0.mk (HG.out _ _ ht); clear HT; have HT := zz_HT; clear zz_HT
          clear hy hgo ht HG
          obtain ⟨A0, c0, A1, c1, ev, tv, _, _, hnm⟩ := HT.out.named
          have k1 : w4.cell? ⟨b, 1, none⟩ = some (.slice A1 rs.length c1) := (blk_cell hnm.refAt.box 1).trans rfl
          clear hnm
          go_wp2_with fail
          go_meet
          case rel => exact ⟨rfl, n, rs, rs, D, es, ts, ⟨by have h := HM.out; omega⟩, HT, HR⟩
        · have hq0 : (kd % 6 == 0) = false := beq_eq_false_iff_ne.2 (by omega)
          have pq0 : (kd.tmod 6 == 0) = false := beq_eq_false_iff_ne.2 (by rw [ht6]; omega)
          have hq1 : (kd % 6 == 1) = false := beq_eq_false_iff_ne.2 (by omega)
          have pq1 : (kd.tmod 6 == 1) = false := beq_eq_false_iff_ne.2 (by rw [ht6]; omega)
          have hq2 : (kd % 6 == 2) = false := beq_eq_false_iff_ne.2 (by omega)
          have pq2 : (kd.tmod 6 == 2) = false := beq_eq_false_iff_ne.2 (by rw [ht6]; omega)
          have hq3 : (kd % 6 == 3) = true := beq_iff_eq.2 (by omega)
          have pq3 : (kd.tmod 6 == 3) = true := beq_iff_eq.2 (by rw [ht6]; omega)
          clear hm hk0 hk1 ht6
          clear PIN cx1 cx2
          obtain ⟨FX, hx, hgo⟩ := HT.out.goX fam_xa fam_yb
          have HG := Aside0.mk hgo
          go_wp2_with fail
          refine (crash_x hx HT.out.hB (by have := HM.out.2.1; omega)).mono ?_
          rintro e w3 ⟨rfl, ht⟩
          have zz_HT := Aside0.mk (HG.out _ _ ht); clear HT; have HT := zz_HT; clear zz_HT
          clear hx hgo ht HG
          obtain ⟨FY, hy, hgo⟩ := HT.out.goY fam_xa fam_yb
          have HG := Aside0.mk hgo
          go_wp2_with fail
          refine (crash_y hy HT.out.hB (by have := HM.out.2.1; omega)).mono ?_
          rintro e w4 ⟨rfl, ht⟩
          have zz_HT := Aside0.mk (HG.out _ _ ht); clear HT; have HT := zz_HT; clear zz_HT
          clear hy hgo ht HG
          have hre : Rel (.map [] : DW) [] [] := rel_empty
          have zz_HR := Aside0.mk (hre); clear HR; have HR := zz_HR; clear zz_HR
          go_wp2_with fail
          go_meet
          case rel => exact ⟨rfl, 0, ds, ds, (.map []), [], [], ⟨by have h := HM.out; omega⟩, HT, HR⟩
        · have hq0 : (kd % 6 == 0) = false := beq_eq_false_iff_ne.2 (by omega)
          have pq0 : (kd.tmod 6 == 0) = false := beq_eq_false_iff_ne.2 (by rw [ht6]; omega)
          have hq1 : (kd % 6 == 1) = false := beq_eq_false_iff_ne.2 (by omega)
          have pq1 : (kd.tmod 6 == 1) = false := beq_eq_false_iff_ne.2 (by rw [ht6]; omega)
          have hq2 : (kd % 6 == 2) = false := beq_eq_false_iff_ne.2 (by omega)
          have pq2 : (kd.tmod 6 == 2) = false := beq_eq_false_iff_ne.2 (by rw [ht6]; omega)
          have hq3 : (kd % 6 == 3) = false := beq_eq_false_iff_ne.2 (by omega)
          have pq3 : (kd.tmod 6 == 3) = false := beq_eq_false_iff_ne.2 (by rw [ht6]; omega)
          have hq4 : (kd % 6 == 4) = true := beq_iff_eq.2 (by omega)
          have pq4 : (kd.tmod 6 == 4) = true := beq_iff_eq.2 (by rw [ht6]; omega)
          clear hm hk0 hk1 ht6
          obtain ⟨FX, FY, _, _, hp⟩ := PIN.out
          have HP := Aside0.mk (And.intro hp True.intro)
          have HKY := Aside0.mk (keys_x hp.getX)
          clear hp PIN cx1 cx2
          go_wp2
          refine St.steadyG (n := 14) (by kernel_rfl) ([] :: [] :: [(1, 93)] :: [] :: [(3, 95)] :: [(0, 92), (2, 94), (4, 96)] :: [] :: [] :: [(7, 99)] :: [] :: [(9, 101)] :: [(6, 98), (8, 100), (10, 102)] :: [(5, 97), (11, 103)] :: [(12, 104)] :: []) (some 92 :: some 93 :: some 94 :: some 95 :: some 96 :: some 97 :: some 98 :: some 99 :: some 100 :: some 101 :: some 102 :: some 103 :: some 104 :: some 7 :: []) (by kernel_rfl) ((St.eqT ?c28_0x8) :: (St.eqT ?c28_1x8) :: (St.eqT ?c28_2x8) :: (St.eqT ?c28_3x8) :: (St.eqT ?c28_4x8) :: (St.eqT ?c28_5x8) :: (St.eqT ?c28_6x8) :: (St.eqT ?c28_7x8) :: (St.eqT ?c28_8x8) :: (St.eqT ?c28_9x8) :: (St.eqT ?c28_10x8) :: (St.eqT ?c28_11x8) :: (St.eqT ?c28_12x8) :: (St.eqT ?c28_13x8) :: []) rfl (by rfl) (fun fl w' => Gd w0.heap.size w0 (some (gx, (.cells #[.int .u8 kd, .bool nx, .int .i64 nn, .string s, .slice LA L.length lc] 28 (0, 0)))) (XA w0.heap.size g md n rs ds D) (fun F w => ∃ D1, Kept D nn s (keepR nn s) D1 ∧ XA w0.heap.size g md (n + 1) rs ds D1 F w) (YB w0.heap.size b rs ds es ts) (RKp es ts nn s w0.heap.size b rs ds) FX FY (fl 5) (fl 11) w') (fun i wa wb => (i = 5 → Turned (fun F w => ∃ D1, Kept D nn s (keepR nn s) D1 ∧ XA w0.heap.size g md (n + 1) rs ds D1 F w) FX wa wb) ∧ (i = 11 → Turned (RKp es ts nn s w0.heap.size b rs ds) FY wa wb) ∧ (i ≠ 5 → i ≠ 11 → wa = wb)) ?hst ?h0 (fun i w' => ∃ p q, Gd w0.heap.size w0 (some (gx, (.cells #[.int .u8 kd, .bool nx, .int .i64 nn, .string s, .slice LA L.length lc] 28 (0, 0)))) (XA w0.heap.size g md n rs ds D) (fun F w => ∃ D1, Kept D nn s (keepR nn s) D1 ∧ XA w0.heap.size g md (n + 1) rs ds D1 F w) (YB w0.heap.size b rs ds es ts) (RKp es ts nn s w0.heap.size b rs ds) FX FY p q w' ∧ (i = 5 → p = false) ∧ (i = 11 → q = false)) ?hB ?hG ?hop ?hend
          case hop =>
            refine ⟨?_, ?_, ?_, ?_, ?_, ?_, ?_, ?_, ?_, ?_, ?_, ?_, ?_, ?_, trivial⟩
            · intro w hB
              simp only [St.withD]
              refine St.ob_value (v := ?_) (w' := w) (by rfl) ?_ ⟨⟨fun e => absurd e (by decide), fun e => absurd e (by decide), fun _ _ => rfl⟩, ?_⟩
              rotate_left
              · go_simp
                with_reducible rfl
              · rfl
            · intro w hB
              simp only [St.withD]
              refine St.ob_value (v := ?_) (w' := w) (by rfl) ?_ ⟨⟨fun e => absurd e (by decide), fun e => absurd e (by decide), fun _ _ => rfl⟩, ?_⟩
              rotate_left
              · go_simp
                with_reducible rfl
              · rfl
            · intro w hB; rintro _ ⟨_, rfl⟩
              simp only [St.withD, List.nil_append, List.cons_append, Act.put, List.setIfInBounds_toArray, List.set_cons_zero, List.set_cons_succ]
              have hbox := hB.choose_spec.choose_spec.1.box
              have cx2 : w.cell? ⟨gx, 2, none⟩ = some (.int .i64 nn) := (blk_cell hbox 2).trans rfl
              have cx3 : w.cell? ⟨gx, 3, none⟩ = some (.string s) := (blk_cell hbox 3).trans rfl
              have cx4 : w.cell? ⟨gx, 4, none⟩ = some (.slice LA L.length lc) := (blk_cell hbox 4).trans rfl
              refine St.ob_value (v := ?_) (w' := w) (by rfl) ?_ ⟨⟨fun e => absurd e (by decide), fun e => absurd e (by decide), fun _ _ => rfl⟩, ?_⟩
              rotate_left
              · go_simp
                with_reducible rfl
              · rfl
            · intro w hB
              simp only [St.withD]
              refine St.ob_value (v := ?_) (w' := w) (by rfl) ?_ ⟨⟨fun e => absurd e (by decide), fun e => absurd e (by decide), fun _ _ => rfl⟩, ?_⟩
              rotate_left
              · go_simp
                with_reducible rfl
              · rfl
            · intro w hB; rintro _ ⟨_, rfl⟩
              simp only [St.withD, List.nil_append, List.cons_append, Act.put, List.setIfInBounds_toArray, List.set_cons_zero, List.set_cons_succ]
              have hbox := hB.choose_spec.choose_spec.1.box
              have cx2 : w.cell? ⟨gx, 2, none⟩ = some (.int .i64 nn) := (blk_cell hbox 2).trans rfl
              have cx3 : w.cell? ⟨gx, 3, none⟩ = some (.string s) := (blk_cell hbox 3).trans rfl
              have cx4 : w.cell? ⟨gx, 4, none⟩ = some (.slice LA L.length lc) := (blk_cell hbox 4).trans rfl
              refine St.ob_value (v := ?_) (w' := w) (by rfl) ?_ ⟨⟨fun e => absurd e (by decide), fun e => absurd e (by decide), fun _ _ => rfl⟩, ?_⟩
              rotate_left
              · go_simp
                with_reducible rfl
              · rfl
            · intro w hB; rintro _ ⟨_, rfl⟩ _ ⟨_, rfl⟩ _ ⟨_, rfl⟩
              simp only [St.withD, List.nil_append, List.cons_append, Act.put, List.setIfInBounds_toArray, List.set_cons_zero, List.set_cons_succ]
              obtain ⟨p, q, hR, hp3, _⟩ := hB
              have e := hp3 rfl
              subst e
              refine St.ob_call Try.func15 (by kernel_rfl) rfl #[.pointer (some ⟨g, 0, none⟩), .int .i64 nn, .string s] (by rfl) rfl (by (try simp only [List.map_toArray, List.map_cons, List.map_nil]); first | done | rfl | (simp only [List.length_drop, List.length_take]; rfl)) ?_
              refine (keep_x nn s (Duo.getX hR) (Gd.hB hR) HQ.out.1 (by have := HM.out.2.2; omega)).mono ?_
              rintro e w1 ⟨rfl, ht⟩
              refine ⟨_, rfl, ⟨fun _ => ht, fun e => absurd e (by decide), fun e => absurd rfl e⟩, ?_⟩
              rfl
            · intro w hB
              simp only [St.withD]
              refine St.ob_value (v := ?_) (w' := w) (by rfl) ?_ ⟨⟨fun e => absurd e (by decide), fun e => absurd e (by decide), fun _ _ => rfl⟩, ?_⟩
              rotate_left
              · go_simp
                with_reducible rfl
              · rfl
            · intro w hB
              simp only [St.withD]
              refine St.ob_value (v := ?_) (w' := w) (by rfl) ?_ ⟨⟨fun e => absurd e (by decide), fun e => absurd e (by decide), fun _ _ => rfl⟩, ?_⟩
              rotate_left
              · go_simp
                with_reducible rfl
              · rfl
            · intro w hB; rintro _ ⟨_, rfl⟩
              simp only [St.withD, List.nil_append, List.cons_append, Act.put, List.setIfInBounds_toArray, List.set_cons_zero, List.set_cons_succ]
              have hbox := hB.choose_spec.choose_spec.1.box
              have cx2 : w.cell? ⟨gx, 2, none⟩ = some (.int .i64 nn) := (blk_cell hbox 2).trans rfl
              have cx3 : w.cell? ⟨gx, 3, none⟩ = some (.string s) := (blk_cell hbox 3).trans rfl
              have cx4 : w.cell? ⟨gx, 4, none⟩ = some (.slice LA L.length lc) := (blk_cell hbox 4).trans rfl
              refine St.ob_value (v := ?_) (w' := w) (by rfl) ?_ ⟨⟨fun e => absurd e (by decide), fun e => absurd e (by decide), fun _ _ => rfl⟩, ?_⟩
              rotate_left
              · go_simp
                with_reducible rfl
              · rfl
            · intro w hB
              simp only [St.withD]
              refine St.ob_value (v := ?_) (w' := w) (by rfl) ?_ ⟨⟨fun e => absurd e (by decide), fun e => absurd e (by decide), fun _ _ => rfl⟩, ?_⟩
              rotate_left
              · go_simp
                with_reducible rfl
              · rfl
            · intro w hB; rintro _ ⟨_, rfl⟩
              simp only [St.withD, List.nil_append, List.cons_append, Act.put, List.setIfInBounds_toArray, List.set_cons_zero, List.set_cons_succ]
              have hbox := hB.choose_spec.choose_spec.1.box
              have cx2 : w.cell? ⟨gx, 2, none⟩ = some (.int .i64 nn) := (blk_cell hbox 2).trans rfl
              have cx3 : w.cell? ⟨gx, 3, none⟩ = some (.string s) := (blk_cell hbox 3).trans rfl
              have cx4 : w.cell? ⟨gx, 4, none⟩ = some (.slice LA L.length lc) := (blk_cell hbox 4).trans rfl
              refine St.ob_value (v := ?_) (w' := w) (by rfl) ?_ ⟨⟨fun e => absurd e (by decide), fun e => absurd e (by decide), fun _ _ => rfl⟩, ?_⟩
              rotate_left
              · go_simp
                with_reducible rfl
              · rfl
            · intro w hB; rintro _ ⟨_, rfl⟩ _ ⟨_, rfl⟩ _ ⟨_, rfl⟩
              simp only [St.withD, List.nil_append, List.cons_append, Act.put, List.setIfInBounds_toArray, List.set_cons_zero, List.set_cons_succ]
              obtain ⟨p, q, hR, _, hp7⟩ := hB
              have e := hp7 rfl
              subst e
              refine St.ob_call Try.func21 (by kernel_rfl) rfl #[.pointer (some ⟨b, 0, none⟩), .int .i64 nn, .string s] (by rfl) rfl (by (try simp only [List.map_toArray, List.map_cons, List.map_nil]); first | done | rfl | (simp only [List.length_drop, List.length_take]; rfl)) ?_
              refine (keep_y nn s (Duo.getY hR) (Gd.hB hR) HR.out.le HR.out.len).mono ?_
              rintro e w1 ⟨rfl, ht⟩
              refine ⟨_, rfl, ⟨fun e => absurd e (by decide), fun _ => ht, fun _ e => absurd rfl e⟩, ?_⟩
              rfl
            · intro w hB; rintro _ ⟨_, rfl⟩ _ ⟨_, rfl⟩
              simp only [St.withD, List.nil_append, List.cons_append, Act.put, List.setIfInBounds_toArray, List.set_cons_zero, List.set_cons_succ]
              refine St.ob_value (v := ?_) (w' := w) (by rfl) ?_ ⟨⟨fun e => absurd e (by decide), fun e => absurd e (by decide), fun _ _ => rfl⟩, ?_⟩
              rotate_left
              · go_simp
                with_reducible rfl
              · rfl
            · intro w hB; rintro _ ⟨_, rfl⟩
              simp only [St.withD, List.nil_append, List.cons_append, Act.put, List.setIfInBounds_toArray, List.set_cons_zero, List.set_cons_succ]
              refine St.ob_value (v := ?_) (w' := w) (by rfl) ?_ ⟨⟨fun e => absurd e (by decide), fun e => absurd e (by decide), fun _ _ => rfl⟩, ?_⟩
              rotate_left
              · go_simp
                with_reducible rfl
              · rfl
          case hst =>
            intro i j fl hi hj _ _ _ ds v wa wb ht _
            refine St.sts_get (Rel := fun _ _ _ => True) 0 _ j (by simpa using hj) ?_ ds v wa wb ht trivial
            exact ⟨St.eqT_st, St.eqT_st, St.eqT_st, St.eqT_st, St.eqT_st, St.eqT_st, St.eqT_st, St.eqT_st, St.eqT_st, St.eqT_st, St.eqT_st, St.eqT_st, St.eqT_st, St.eqT_st, trivial⟩
          case h0 => exact Gd.from (p := false) (q := false) HP.out.1 fam_xa (Fam.ex fun _ => fam_xa) fam_yb fam_rkp (below_drew1 (Below.refl _ _))
          case hB => exact fun i fl w' hi hfi _ _ hG => ⟨_, _, hG, fun e => by subst e; exact hfi, fun e => by subst e; exact hfi⟩
          case hG => (
            intro i fl wa wb hi hfi _ _ hG hR
            by_cases h3 : i = 5
            · subst h3
              rw [hfi] at hG
              have hk := Gd.left hG fam_xa fam_yb fam_rkp (hR.1 rfl)
              simpa [St.upB] using hk
            · by_cases h7 : i = 11
              · subst h7
                rw [hfi] at hG
                have hk := Gd.right hG fam_xa (Fam.ex fun _ => fam_xa) fam_yb (hR.2.1 rfl)
                simpa [St.upB] using hk
              · have e := hR.2.2 h3 h7
                subst e
                have e3 : St.upB fl i 5 = fl 5 := by unfold St.upB; rw [if_neg (Ne.symm h3)]
                have e7 : St.upB fl i 11 = fl 11 := by unfold St.upB; rw [if_neg (Ne.symm h7)]
                simpa only [e3, e7] using hG)
          case hend =>
            intro fl w hall hB
            rintro _ rfl _ rfl _ rfl _ rfl _ rfl _ rfl _ rfl _ rfl _ rfl _ rfl _ rfl _ rfl _ rfl _ rfl
            simp only [List.map_cons, List.map_nil, List.nil_append, List.cons_append, List.getD_cons_zero, List.getD_cons_succ, Act.put, List.setIfInBounds_toArray, List.set_cons_zero, List.set_cons_succ]
            rw [St.withE_nil]
            have HG : Aside0 (Gd w0.heap.size w0 (some (gx, (.cells #[.int .u8 kd, .bool nx, .int .i64 nn, .string s, .slice LA L.length lc] 28 (0, 0)))) (XA w0.heap.size g md n rs ds D) (fun F w => ∃ D1, Kept D nn s (keepR nn s) D1 ∧ XA w0.heap.size g md (n + 1) rs ds D1 F w) (YB w0.heap.size b rs ds es ts) (RKp es ts nn s w0.heap.size b rs ds) FX FY true true w) := ⟨by have h3 := hall 5 (by decide); have h7 := hall 11 (by decide); rw [h3, h7] at hB; exact hB⟩
            clear hB hall
            have hk : Duo w0.heap.size w0 (some (gx, (.cells #[.int .u8 kd, .bool nx, .int .i64 nn, .string s, .slice LA L.length lc] 28 (0, 0)))) (fun F w => ∃ D1, Kept D nn s (keepR nn s) D1 ∧ XA w0.heap.size g md (n + 1) rs ds D1 F w) (RKp es ts nn s w0.heap.size b rs ds) w := HG.out
            obtain ⟨D1, hD1, hk⟩ := hk.outX
            obtain ⟨es1, ts1, hE1, hk⟩ := hk.outR
            have HT : Aside0 (Duo w0.heap.size w0 (some (gx, (.cells #[.int .u8 kd, .bool nx, .int .i64 nn, .string s, .slice LA L.length lc] 28 (0, 0)))) (XA w0.heap.size g md (n + 1) rs ds D1) (YB w0.heap.size b rs ds es1 ts1) w) := ⟨hk⟩
            have hrel := (HR.out.kept HKY.out hD1 hE1).2
            have zz_HR := Aside0.mk (hrel); clear HR; have HR := zz_HR; clear zz_HR
            clear hk hD1 hE1 hrel HG HP
            go_wp2_with fail
            go_meet
            case rel => exact ⟨rfl, n + 1, rs, ds, D1, es1, ts1, ⟨by have h := HM.out; omega⟩, HT, HR⟩
        · have hq0 : (kd % 6 == 0) = false := beq_eq_false_iff_ne.2 (by omega)
          have pq0 : (kd.tmod 6 == 0) = false := beq_eq_false_iff_ne.2 (by rw [ht6]; omega)
          have hq1 : (kd % 6 == 1) = false := beq_eq_false_iff_ne.2 (by omega)
          have pq1 : (kd.tmod 6 == 1) = false := beq_eq_false_iff_ne.2 (by rw [ht6]; omega)
          have hq2 : (kd % 6 == 2) = false := beq_eq_false_iff_ne.2 (by omega)
          have pq2 : (kd.tmod 6 == 2) = false := beq_eq_false_iff_ne.2 (by rw [ht6]; omega)
          have hq3 : (kd % 6 == 3) = false := beq_eq_false_iff_ne.2 (by omega)
          have pq3 : (kd.tmod 6 == 3) = false := beq_eq_false_iff_ne.2 (by rw [ht6]; omega)
          have hq4 : (kd % 6 == 4) = false := beq_eq_false_iff_ne.2 (by omega)
          have pq4 : (kd.tmod 6 == 4) = false := beq_eq_false_iff_ne.2 (by rw [ht6]; omega)
          clear hm hk0 hk1 ht6
          clear PIN cx1 cx2
          go_wp2_with fail
          go_meet
          case rel => exact ⟨rfl, n, rs, ds, D, es, ts, ⟨by have h := HM.out; omega⟩, HT, HR⟩
      case rest =>
        clear HT HM HR
        obtain ⟨rfl, n, rs, ds, D, es, ts, HM, HT, HR⟩ := hcut
        have cx2 : wc.cell? ⟨gx, 2, none⟩ = some (.int .i64 nn) := (blk_cell HT.out.box 2).trans rfl
        obtain ⟨Fx, hx⟩ := HT.out.exX
        go_wp2_with fail
        refine (dict_xx nn hx HQ.out.1).mono ?_
        rintro e w3 ⟨⟨t, has, rfl, hdx⟩, rfl⟩
        obtain ⟨Fy, hy⟩ := HT.out.exY
        go_wp2_with fail
        refine (dict_yy nn hy HR.out.le HR.out.len).mono ?_
        rintro e w4 ⟨⟨t2, has2, rfl, hdy⟩, rfl⟩
        obtain ⟨rfl, rfl⟩ := HR.out.dict hdx hdy
        clear hdx hdy hx hy cx2
        obtain ⟨A0, c0, A1, c1, ev, tv, hc0, hc1, hnm⟩ := HT.out.named
        have zz_HT := Aside0.mk (hnm); clear HT; have HT := zz_HT; clear zz_HT
        clear hnm
        go_wp2
        refine St.steadyR (n := 39) (by kernel_rfl) ([] :: [(0, 119)] :: [(1, 120)] :: [(2, 121)] :: [(2, 121)] :: [(2, 121), (3, 122), (4, 123)] :: [(2, 121), (5, 124)] :: [(6, 125)] :: [(7, 126)] :: [(7, 126)] :: [(7, 126), (8, 127), (9, 128)] :: [(7, 126), (10, 129)] :: [(11, 130)] :: [(12, 131)] :: [(12, 131), (13, 132)] :: [(12, 131)] :: [(12, 131), (15, 134)] :: [(12, 131), (14, 133), (16, 135)] :: [(12, 131), (17, 136)] :: [(18, 137)] :: [(19, 138)] :: [(19, 138), (20, 139)] :: [(19, 138)] :: [(19, 138), (22, 141)] :: [(19, 138), (23, 142)] :: [(19, 138), (24, 143)] :: [(19, 138), (25, 144)] :: [(19, 138), (21, 140), (26, 145)] :: [(19, 138), (27, 146)] :: [(28, 147)] :: [(29, 148)] :: [(29, 148), (30, 149)] :: [(29, 148)] :: [(29, 148), (32, 151)] :: [(29, 148), (33, 152)] :: [(29, 148), (34, 153)] :: [(29, 148), (35, 154)] :: [(29, 148), (31, 150), (36, 155)] :: [(29, 148), (37, 156)] :: []) (some 119 :: some 120 :: some 121 :: some 122 :: some 123 :: some 124 :: some 125 :: some 126 :: some 127 :: some 128 :: some 129 :: some 130 :: some 131 :: some 132 :: some 133 :: some 134 :: some 135 :: some 136 :: some 137 :: some 138 :: some 139 :: some 140 :: some 141 :: some 142 :: some 143 :: some 144 :: some 145 :: some 146 :: some 147 :: some 148 :: some 149 :: some 150 :: some 151 :: some 152 :: some 153 :: some 154 :: some 155 :: some 156 :: some 157 :: []) (by kernel_rfl) ((St.eqT ?c31_0) :: (St.eqT ?c31_1) :: (St.eqT ?c31_2) :: (St.eqT ?c31_3) :: (St.eqT ?c31_4) :: (St.eqT ?c31_5) :: (St.eqT ?c31_6) :: (St.eqT ?c31_7) :: (St.eqT ?c31_8) :: (St.eqT ?c31_9) :: (St.eqT ?c31_10) :: (St.eqT ?c31_11) :: (St.eqT ?c31_12) :: (St.eqT ?c31_13) :: (fun _ v w => ∃ m, v = .int .i64 m ∧ IsLast D m) :: (St.eqT ?c31_15) :: (fun _ v w => ∃ m, v = .int .i64 m ∧ RLast es m) :: (St.eqT (.bool false)) :: (St.eqT ?c31_18) :: (St.eqT ?c31_19) :: (St.eqT ?c31_20) :: (St.eqT ?c31_21) :: (St.eqT ?c31_22) :: (St.eqT ?c31_23) :: (St.eqT ?c31_24) :: (St.eqT ?c31_25) :: (St.eqT ?c31_26) :: (St.eqT ?c31_27) :: (St.eqT ?c31_28) :: (St.eqT ?c31_29) :: (St.eqT ?c31_30) :: (St.eqT ?c31_31) :: (St.eqT ?c31_32) :: (St.eqT ?c31_33) :: (St.eqT ?c31_34) :: (St.eqT ?c31_35) :: (St.eqT ?c31_36) :: (St.eqT ?c31_37) :: (St.eqT ?c31_38) :: []) rfl (by rfl) (fun w' => Duo w0.heap.size w0 (some (gx, (.cells #[.int .u8 kd, .bool nx, .int .i64 nn, .string s, .slice LA L.length lc] 28 (0, 0)))) (XA w0.heap.size g md n rs ds D) (YP w0.heap.size b (.slice A0 rs.length c0) (.slice A1 ds.length c1) ev tv rs ds es ts) w') (fun w w' => Below w.heap.size w w') ?hst ?h0 ?hB ?hop ?hend
        case hop =>
          refine ⟨?_, ?_, ?_, ?_, ?_, ?_, ?_, ?_, ?_, ?_, ?_, ?_, ?_, ?_, ?_, ?_, ?_, ?_, ?_, ?_, ?_, ?_, ?_, ?_, ?_, ?_, ?_, ?_, ?_, ?_, ?_, ?_, ?_, ?_, ?_, ?_, ?_, ?_, ?_, trivial⟩
          · intro w hB
            simp only [St.withD]
            refine St.ob_value (v := ?_) (w' := w) (by rfl) ?_ ⟨Below.refl _ _, ?_⟩
            rotate_left
            · go_simp
              with_reducible rfl
            · rfl
          · intro w hB; rintro _ ⟨_, rfl⟩
            simp only [St.withD, List.nil_append, List.cons_append, Act.put, List.setIfInBounds_toArray, List.set_cons_zero, List.set_cons_succ]
            refine St.ob_value (v := ?_) (w' := w) (by rfl) ?_ ⟨Below.refl _ _, ?_⟩
            rotate_left
            · go_simp
              with_reducible rfl
            · rfl
          · intro w hB; rintro _ ⟨_, rfl⟩
            simp only [St.withD, List.nil_append, List.cons_append, Act.put, List.setIfInBounds_toArray, List.set_cons_zero, List.set_cons_succ]
            refine St.ob_value (v := ?_) (w' := w) (by rfl) ?_ ⟨Below.refl _ _, ?_⟩
            rotate_left
            · go_simp
              with_reducible rfl
            · rfl
          · intro w hB; rintro _ ⟨_, rfl⟩
            simp only [St.withD, List.nil_append, List.cons_append, Act.put, List.setIfInBounds_toArray, List.set_cons_zero, List.set_cons_succ]
            refine St.ob_value (v := ?_) (w' := w) (by rfl) ?_ ⟨Below.refl _ _, ?_⟩
            rotate_left
            · go_simp
              with_reducible rfl
            · rfl
          · intro w hB; rintro _ ⟨_, rfl⟩
            simp only [St.withD, List.nil_append, List.cons_append, Act.put, List.setIfInBounds_toArray, List.set_cons_zero, List.set_cons_succ]
            refine St.ob_value (v := ?_) (w' := w) (by rfl) ?_ ⟨Below.refl _ _, ?_⟩
            rotate_left
            · go_simp
              with_reducible rfl
            · rfl
          · intro w hB; rintro _ ⟨_, rfl⟩ _ ⟨_, rfl⟩ _ ⟨_, rfl⟩
            simp only [St.withD, List.nil_append, List.cons_append, Act.put, List.setIfInBounds_toArray, List.set_cons_zero, List.set_cons_succ]
            refine St.ob_value (v := ?_) (w' := w) (by rfl) ?_ ⟨Below.refl _ _, ?_⟩
            rotate_left
            · go_simp
              with_reducible rfl
            · rfl
          · intro w hB; rintro _ ⟨_, rfl⟩ _ ⟨_, rfl⟩
            simp only [St.withD, List.nil_append, List.cons_append, Act.put, List.setIfInBounds_toArray, List.set_cons_zero, List.set_cons_succ]
            refine St.ob_value (v := ?_) (w' := w) (by rfl) ?_ ⟨Below.refl _ _, ?_⟩
            rotate_left
            · go_simp
              with_reducible rfl
            · rfl
          · intro w hB; rintro _ ⟨_, rfl⟩
            simp only [St.withD, List.nil_append, List.cons_append, Act.put, List.setIfInBounds_toArray, List.set_cons_zero, List.set_cons_succ]
            refine St.ob_value (v := ?_) (w' := w) (by rfl) ?_ ⟨Below.refl _ _, ?_⟩
            rotate_left
            · go_simp
              with_reducible rfl
            · rfl
          · intro w hB; rintro _ ⟨_, rfl⟩
            simp only [St.withD, List.nil_append, List.cons_append, Act.put, List.setIfInBounds_toArray, List.set_cons_zero, List.set_cons_succ]
            refine St.ob_value (v := ?_) (w' := w) (by rfl) ?_ ⟨Below.refl _ _, ?_⟩
            rotate_left
            · go_simp
              with_reducible rfl
            · rfl
          · intro w hB; rintro _ ⟨_, rfl⟩
            simp only [St.withD, List.nil_append, List.cons_append, Act.put, List.setIfInBounds_toArray, List.set_cons_zero, List.set_cons_succ]
            refine St.ob_value (v := ?_) (w' := w) (by rfl) ?_ ⟨Below.refl _ _, ?_⟩
            rotate_left
            · go_simp
              with_reducible rfl
            · rfl
          · intro w hB; rintro _ ⟨_, rfl⟩ _ ⟨_, rfl⟩ _ ⟨_, rfl⟩
            simp only [St.withD, List.nil_append, List.cons_append, Act.put, List.setIfInBounds_toArray, List.set_cons_zero, List.set_cons_succ]
            refine St.ob_value (v := ?_) (w' := w) (by rfl) ?_ ⟨Below.refl _ _, ?_⟩
            rotate_left
            · go_simp
              with_reducible rfl
            · rfl
          · intro w hB; rintro _ ⟨_, rfl⟩ _ ⟨_, rfl⟩
            simp only [St.withD, List.nil_append, List.cons_append, Act.put, List.setIfInBounds_toArray, List.set_cons_zero, List.set_cons_succ]
            refine St.ob_value (v := ?_) (w' := w) (by rfl) ?_ ⟨Below.refl _ _, ?_⟩
            rotate_left
            · go_simp
              with_reducible rfl
            · rfl
          · intro w hB; rintro _ ⟨_, rfl⟩
            simp only [St.withD, List.nil_append, List.cons_append, Act.put, List.setIfInBounds_toArray, List.set_cons_zero, List.set_cons_succ]
            refine St.ob_value (v := ?_) (w' := w) (by rfl) ?_ ⟨Below.refl _ _, ?_⟩
            rotate_left
            · go_simp
              with_reducible rfl
            · rfl
          · intro w hB; rintro _ ⟨_, rfl⟩
            simp only [St.withD, List.nil_append, List.cons_append, Act.put, List.setIfInBounds_toArray, List.set_cons_zero, List.set_cons_succ]
            refine St.ob_value (v := ?_) (w' := w) (by rfl) ?_ ⟨Below.refl _ _, ?_⟩
            rotate_left
            · go_simp
              with_reducible rfl
            · rfl
          · intro w hB; rintro _ ⟨_, rfl⟩ _ ⟨_, rfl⟩
            simp only [St.withD, List.nil_append, List.cons_append, Act.put, List.setIfInBounds_toArray, List.set_cons_zero, List.set_cons_succ]
            refine St.ob_call Try.func14 (by kernel_rfl) rfl #[.pointer (some ⟨g, 0, none⟩)] (by rfl) rfl (by (try simp only [List.map_toArray, List.map_cons, List.map_nil]); first | done | rfl | (simp only [List.length_drop, List.length_take]; rfl)) ?_
            refine (last_x hB.exX.choose_spec).mono ?_
            rintro e w1 ⟨⟨m, rfl, hm⟩, hb⟩
            refine ⟨_, rfl, hb, ?_⟩
            exact ⟨m, rfl, hm⟩
          · intro w hB; rintro _ ⟨_, rfl⟩
            simp only [St.withD, List.nil_append, List.cons_append, Act.put, List.setIfInBounds_toArray, List.set_cons_zero, List.set_cons_succ]
            refine St.ob_value (v := ?_) (w' := w) (by rfl) ?_ ⟨Below.refl _ _, ?_⟩
            rotate_left
            · go_simp
              with_reducible rfl
            · rfl
          · intro w hB; rintro _ ⟨_, rfl⟩ _ ⟨_, rfl⟩
            simp only [St.withD, List.nil_append, List.cons_append, Act.put, List.setIfInBounds_toArray, List.set_cons_zero, List.set_cons_succ]
            refine St.ob_call Try.func24 (by kernel_rfl) rfl #[.pointer (some ⟨b, 0, none⟩)] (by rfl) rfl (by (try simp only [List.map_toArray, List.map_cons, List.map_nil]); first | done | rfl | (simp only [List.length_drop, List.length_take]; rfl)) ?_
            refine (last_y hB.unnamed.exY.choose_spec HR.out.le).mono ?_
            rintro e w1 ⟨⟨m, rfl, hm⟩, rfl⟩
            refine ⟨_, rfl, Below.refl _ _, ?_⟩
            exact ⟨m, rfl, hm⟩
          · intro w hB; rintro _ ⟨_, rfl⟩ v14 ⟨ds14, ht14⟩ v16 ⟨ds16, ht16⟩
            simp only [St.withD, List.nil_append, List.cons_append, Act.put, List.setIfInBounds_toArray, List.set_cons_zero, List.set_cons_succ]
            obtain ⟨m, rfl, hm⟩ := ht14
            obtain ⟨m2, rfl, hm2⟩ := ht16
            obtain rfl := HR.out.last hm hm2
            refine St.ob_value (v := .bool false) (w' := w) (by rfl) ?_ ⟨Below.refl _ _, rfl⟩
            go_simp
            try rfl
          · intro w hB; rintro _ ⟨_, rfl⟩ _ ⟨_, rfl⟩
            simp only [St.withD, List.nil_append, List.cons_append, Act.put, List.setIfInBounds_toArray, List.set_cons_zero, List.set_cons_succ]
            refine St.ob_value (v := ?_) (w' := w) (by rfl) ?_ ⟨Below.refl _ _, ?_⟩
            rotate_left
            · go_simp
              with_reducible rfl
            · rfl
          · intro w hB; rintro _ ⟨_, rfl⟩
            simp only [St.withD, List.nil_append, List.cons_append, Act.put, List.setIfInBounds_toArray, List.set_cons_zero, List.set_cons_succ]
            refine St.ob_value (v := ?_) (w' := w) (by rfl) ?_ ⟨Below.refl _ _, ?_⟩
            rotate_left
            · go_simp
              with_reducible rfl
            · rfl
          · intro w hB; rintro _ ⟨_, rfl⟩
            simp only [St.withD, List.nil_append, List.cons_append, Act.put, List.setIfInBounds_toArray, List.set_cons_zero, List.set_cons_succ]
            refine St.ob_value (v := ?_) (w' := w) (by rfl) ?_ ⟨Below.refl _ _, ?_⟩
            rotate_left
            · go_simp
              with_reducible rfl
            · rfl
          · intro w hB; rintro _ ⟨_, rfl⟩ _ ⟨_, rfl⟩
            simp only [St.withD, List.nil_append, List.cons_append, Act.put, List.setIfInBounds_toArray, List.set_cons_zero, List.set_cons_succ]
            refine St.ob_call Try.func16 (by kernel_rfl) rfl #[.pointer (some ⟨g, 0, none⟩)] (by rfl) rfl (by (try simp only [List.map_toArray, List.map_cons, List.map_nil]); first | done | rfl | (simp only [List.length_drop, List.length_take]; rfl)) ?_
            refine (len_x hB.exX.choose_spec).mono ?_
            rintro e w1 ⟨rfl, rfl⟩
            refine ⟨_, rfl, Below.refl _ _, ?_⟩
            rfl
          · intro w hB; rintro _ ⟨_, rfl⟩
            simp only [St.withD, List.nil_append, List.cons_append, Act.put, List.setIfInBounds_toArray, List.set_cons_zero, List.set_cons_succ]
            refine St.ob_value (v := ?_) (w' := w) (by rfl) ?_ ⟨Below.refl _ _, ?_⟩
            rotate_left
            · go_simp
              with_reducible rfl
            · rfl
          · intro w hB; rintro _ ⟨_, rfl⟩ _ ⟨_, rfl⟩
            simp only [St.withD, List.nil_append, List.cons_append, Act.put, List.setIfInBounds_toArray, List.set_cons_zero, List.set_cons_succ]
            refine St.ob_value (v := ?_) (w' := w) (by rfl) ?_ ⟨Below.refl _ _, ?_⟩
            rotate_left
            · go_simp
              with_reducible rfl
            · rfl
          · intro w hB; rintro _ ⟨_, rfl⟩ _ ⟨_, rfl⟩
            simp only [St.withD, List.nil_append, List.cons_append, Act.put, List.setIfInBounds_toArray, List.set_cons_zero, List.set_cons_succ]
            refine St.ob_value (v := ?_) (w' := w) (by rfl) ?_ ⟨Below.refl _ _, ?_⟩
            rotate_left
            · go_simp
              with_reducible rfl
            · rfl
          · intro w hB; rintro _ ⟨_, rfl⟩ _ ⟨_, rfl⟩
            simp only [St.withD, List.nil_append, List.cons_append, Act.put, List.setIfInBounds_toArray, List.set_cons_zero, List.set_cons_succ]
            have k0 : w.cell? ⟨b, 0, none⟩ = some (.slice A0 rs.length c0) := (blk_cell hB.refAt.box 0).trans rfl
            have k1 : w.cell? ⟨b, 1, none⟩ = some (.slice A1 ds.length c1) := (blk_cell hB.refAt.box 1).trans rfl
            refine St.ob_value (v := ?_) (w' := w) (by rfl) ?_ ⟨Below.refl _ _, ?_⟩
            rotate_left
            · go_simp
              with_reducible rfl
            · rfl
          · intro w hB; rintro _ ⟨_, rfl⟩ _ ⟨_, rfl⟩
            simp only [St.withD, List.nil_append, List.cons_append, Act.put, List.setIfInBounds_toArray, List.set_cons_zero, List.set_cons_succ]
            refine St.ob_value (v := ?_) (w' := w) (by rfl) ?_ ⟨Below.refl _ _, ?_⟩
            rotate_left
            · go_simp
              with_reducible rfl
            · rfl
          · intro w hB; rintro _ ⟨_, rfl⟩ _ ⟨_, rfl⟩ _ ⟨_, rfl⟩
            simp only [St.withD, List.nil_append, List.cons_append, Act.put, List.setIfInBounds_toArray, List.set_cons_zero, List.set_cons_succ]
            refine St.ob_value (v := ?_) (w' := w) (by rfl) ?_ ⟨Below.refl _ _, ?_⟩
            rotate_left
            · go_simp
              with_reducible rfl
            · rfl
          · intro w hB; rintro _ ⟨_, rfl⟩ _ ⟨_, rfl⟩
            simp only [St.withD, List.nil_append, List.cons_append, Act.put, List.setIfInBounds_toArray, List.set_cons_zero, List.set_cons_succ]
            refine St.ob_value (v := ?_) (w' := w) (by rfl) ?_ ⟨Below.refl _ _, ?_⟩
            rotate_left
            · go_simp
              with_reducible rfl
            · rfl
          · intro w hB; rintro _ ⟨_, rfl⟩
            simp only [St.withD, List.nil_append, List.cons_append, Act.put, List.setIfInBounds_toArray, List.set_cons_zero, List.set_cons_succ]
            refine St.ob_value (v := ?_) (w' := w) (by rfl) ?_ ⟨Below.refl _ _, ?_⟩
            rotate_left
            · go_simp
              with_reducible rfl
            · rfl
          · intro w hB; rintro _ ⟨_, rfl⟩
            simp only [St.withD, List.nil_append, List.cons_append, Act.put, List.setIfInBounds_toArray, List.set_cons_zero, List.set_cons_succ]
            refine St.ob_value (v := ?_) (w' := w) (by rfl) ?_ ⟨Below.refl _ _, ?_⟩
            rotate_left
            · go_simp
              with_reducible rfl
            · rfl
          · intro w hB; rintro _ ⟨_, rfl⟩ _ ⟨_, rfl⟩
            simp only [St.withD, List.nil_append, List.cons_append, Act.put, List.setIfInBounds_toArray, List.set_cons_zero, List.set_cons_succ]
            refine St.ob_call Try.func25 (by kernel_rfl) rfl #[.pointer (some ⟨g, 0, none⟩)] (by rfl) rfl (by (try simp only [List.map_toArray, List.map_cons, List.map_nil]); first | done | rfl | (simp only [List.length_drop, List.length_take]; rfl)) ?_
            refine (dur_x hB.exX.choose_spec).mono ?_
            rintro e w1 ⟨rfl, rfl⟩
            refine ⟨_, rfl, Below.refl _ _, ?_⟩
            rfl
          · intro w hB; rintro _ ⟨_, rfl⟩
            simp only [St.withD, List.nil_append, List.cons_append, Act.put, List.setIfInBounds_toArray, List.set_cons_zero, List.set_cons_succ]
            refine St.ob_value (v := ?_) (w' := w) (by rfl) ?_ ⟨Below.refl _ _, ?_⟩
            rotate_left
            · go_simp
              with_reducible rfl
            · rfl
          · intro w hB; rintro _ ⟨_, rfl⟩ _ ⟨_, rfl⟩
            simp only [St.withD, List.nil_append, List.cons_append, Act.put, List.setIfInBounds_toArray, List.set_cons_zero, List.set_cons_succ]
            refine St.ob_value (v := ?_) (w' := w) (by rfl) ?_ ⟨Below.refl _ _, ?_⟩
            rotate_left
            · go_simp
              with_reducible rfl
            · rfl
          · intro w hB; rintro _ ⟨_, rfl⟩ _ ⟨_, rfl⟩
            simp only [St.withD, List.nil_append, List.cons_append, Act.put, List.setIfInBounds_toArray, List.set_cons_zero, List.set_cons_succ]
            refine St.ob_value (v := ?_) (w' := w) (by rfl) ?_ ⟨Below.refl _ _, ?_⟩
            rotate_left
            · go_simp
              with_reducible rfl
            · rfl
          · intro w hB; rintro _ ⟨_, rfl⟩ _ ⟨_, rfl⟩
            simp only [St.withD, List.nil_append, List.cons_append, Act.put, List.setIfInBounds_toArray, List.set_cons_zero, List.set_cons_succ]
            have k0 : w.cell? ⟨b, 0, none⟩ = some (.slice A0 rs.length c0) := (blk_cell hB.refAt.box 0).trans rfl
            have k1 : w.cell? ⟨b, 1, none⟩ = some (.slice A1 ds.length c1) := (blk_cell hB.refAt.box 1).trans rfl
            refine St.ob_value (v := ?_) (w' := w) (by rfl) ?_ ⟨Below.refl _ _, ?_⟩
            rotate_left
            · go_simp
              with_reducible rfl
            · rfl
          · intro w hB; rintro _ ⟨_, rfl⟩ _ ⟨_, rfl⟩
            simp only [St.withD, List.nil_append, List.cons_append, Act.put, List.setIfInBounds_toArray, List.set_cons_zero, List.set_cons_succ]
            refine St.ob_value (v := ?_) (w' := w) (by rfl) ?_ ⟨Below.refl _ _, ?_⟩
            rotate_left
            · go_simp
              with_reducible rfl
            · rfl
          · intro w hB; rintro _ ⟨_, rfl⟩ _ ⟨_, rfl⟩ _ ⟨_, rfl⟩
            simp only [St.withD, List.nil_append, List.cons_append, Act.put, List.setIfInBounds_toArray, List.set_cons_zero, List.set_cons_succ]
            refine St.ob_value (v := ?_) (w' := w) (by rfl) ?_ ⟨Below.refl _ _, ?_⟩
            rotate_left
            · go_simp
              with_reducible rfl
            · rfl
          · intro w hB; rintro _ ⟨_, rfl⟩ _ ⟨_, rfl⟩
            simp only [St.withD, List.nil_append, List.cons_append, Act.put, List.setIfInBounds_toArray, List.set_cons_zero, List.set_cons_succ]
            refine St.ob_value (v := ?_) (w' := w) (by rfl) ?_ ⟨Below.refl _ _, ?_⟩
            rotate_left
            · go_simp
              with_reducible rfl
            · rfl
        case hst => exact ⟨St.eqT_st, St.eqT_st, St.eqT_st, St.eqT_st, St.eqT_st, St.eqT_st, St.eqT_st, St.eqT_st, St.eqT_st, St.eqT_st, St.eqT_st, St.eqT_st, St.eqT_st, St.eqT_st, fun ds v w w' h hR => by exact h, St.eqT_st, fun ds v w w' h hR => by exact h, St.eqT_st, St.eqT_st, St.eqT_st, St.eqT_st, St.eqT_st, St.eqT_st, St.eqT_st, St.eqT_st, St.eqT_st, St.eqT_st, St.eqT_st, St.eqT_st, St.eqT_st, St.eqT_st, St.eqT_st, St.eqT_st, St.eqT_st, St.eqT_st, St.eqT_st, St.eqT_st, St.eqT_st, St.eqT_st, trivial⟩
        case h0 => exact HT.out.from fam_xa fam_yp (below_drew1 (Below.refl _ _))
        case hB => exact fun w w' h k => h.from fam_xa fam_yp k
        case hend =>
          intro w hB
          rintro _ rfl _ rfl _ rfl _ rfl _ rfl _ rfl _ rfl _ rfl _ rfl _ rfl _ rfl _ rfl _ rfl _ rfl v14 ht14 _ rfl v16 ht16 _ rfl _ rfl _ rfl _ rfl _ rfl _ rfl _ rfl _ rfl _ rfl _ rfl _ rfl _ rfl _ rfl _ rfl _ rfl _ rfl _ rfl _ rfl _ rfl _ rfl _ rfl _ rfl
          simp only [List.map_cons, List.map_nil, List.nil_append, List.cons_append, List.getD_cons_zero, List.getD_cons_succ, Act.put, List.setIfInBounds_toArray, List.set_cons_zero, List.set_cons_succ]
          rw [St.withE_nil]
          have HT2 : Aside0 (Duo w0.heap.size w0 none (XA w0.heap.size g md n rs ds D) (YB w0.heap.size b rs ds es ts) w) := ⟨hB.unnamed.bare⟩
          clear hB ht14 ht16 HT
          go_wp2
          go_roundg (gk - 1)
          case measure => have := HK.out; omega
          case rel => exact ⟨k + 1, n, rs, ds, D, es, ts, ⟨by have := HK.out; omega⟩, by go_num, HM, HT2, HR⟩
    · obtain ⟨A0, c0, A1, c1, ev, tv, hc0, hc1, hnm⟩ := HT.out.named
      have zz_HT := Aside0.mk (hnm); clear HT; have HT := zz_HT; clear zz_HT
      clear hnm
      go_wp2
      refine St.steadyR (n := 8) (by kernel_rfl) ([] :: [(0, 159)] :: [] :: [(2, 161)] :: [(3, 162)] :: [(4, 163)] :: [(1, 160), (5, 164)] :: [(6, 165)] :: []) (some 159 :: some 160 :: some 161 :: some 162 :: some 163 :: some 164 :: some 165 :: some 2 :: []) (by kernel_rfl) ((St.eqT ?c34_0x2) :: (fun _ v w => ∃ A c, v = .slice A rs.length c ∧ rs.length ≤ c ∧ RdS w A rs) :: (St.eqT ?c34_2x2) :: (St.eqT ?c34_3x2) :: (St.eqT ?c34_4x2) :: (St.eqT ?c34_5x2) :: (St.eqT ?c34_6x2) :: (St.eqT ?c34_7x2) :: []) rfl (by rfl) (fun w' => Duo w0.heap.size w0 none (XA w0.heap.size g md n rs ds D) (YP w0.heap.size b (.slice A0 rs.length c0) (.slice A1 ds.length c1) ev tv rs ds es ts) w') (fun w w' => Below w.heap.size w w') ?hst ?h0 ?hB ?hop ?hend
      case hop =>
        refine ⟨?_, ?_, ?_, ?_, ?_, ?_, ?_, ?_, trivial⟩
        · intro w hB
          simp only [St.withD]
          refine St.ob_value (v := ?_) (w' := w) (by rfl) ?_ ⟨Below.refl _ _, ?_⟩
          rotate_left
          · go_simp
            with_reducible rfl
          · rfl
        · intro w hB; rintro _ ⟨_, rfl⟩
          simp only [St.withD, List.nil_append, List.cons_append, Act.put, List.setIfInBounds_toArray, List.set_cons_zero, List.set_cons_succ]
          refine St.ob_call Try.func8 (by kernel_rfl) rfl #[.pointer (some ⟨g, 0, none⟩)] (by rfl) rfl (by (try simp only [List.map_toArray, List.map_cons, List.map_nil]); first | done | rfl | (simp only [List.length_drop, List.length_take]; rfl)) ?_
          refine (all_x hB.exX.choose_spec (by have := HM.out.1; have := HK.out; omega)).mono ?_
          rintro e w1 ⟨v, rfl, ho, hb⟩
          refine ⟨_, rfl, hb, ?_⟩
          exact own_rds ho
        · intro w hB
          simp only [St.withD]
          refine St.ob_value (v := ?_) (w' := w) (by rfl) ?_ ⟨Below.refl _ _, ?_⟩
          rotate_left
          · go_simp
            with_reducible rfl
          · rfl
        · intro w hB; rintro _ ⟨_, rfl⟩
          simp only [St.withD, List.nil_append, List.cons_append, Act.put, List.setIfInBounds_toArray, List.set_cons_zero, List.set_cons_succ]
          refine St.ob_value (v := ?_) (w' := w) (by rfl) ?_ ⟨Below.refl _ _, ?_⟩
          rotate_left
          · go_simp
            with_reducible rfl
          · rfl
        · intro w hB; rintro _ ⟨_, rfl⟩
          simp only [St.withD, List.nil_append, List.cons_append, Act.put, List.setIfInBounds_toArray, List.set_cons_zero, List.set_cons_succ]
          refine St.ob_value (v := ?_) (w' := w) (by rfl) ?_ ⟨Below.refl _ _, ?_⟩
          rotate_left
          · go_simp
            with_reducible rfl
          · rfl
        · intro w hB; rintro _ ⟨_, rfl⟩
          simp only [St.withD, List.nil_append, List.cons_append, Act.put, List.setIfInBounds_toArray, List.set_cons_zero, List.set_cons_succ]
          have k0 : w.cell? ⟨b, 0, none⟩ = some (.slice A0 rs.length c0) := (blk_cell hB.refAt.box 0).trans rfl
          refine St.ob_value (v := ?_) (w' := w) (by rfl) ?_ ⟨Below.refl _ _, ?_⟩
          rotate_left
          · go_simp
            with_reducible rfl
          · rfl
        · intro w hB; rintro v1 ⟨ds1, ht1⟩ _ ⟨_, rfl⟩
          simp only [St.withD, List.nil_append, List.cons_append, Act.put, List.setIfInBounds_toArray, List.set_cons_zero, List.set_cons_succ]
          obtain ⟨A2, c2, rfl, hc2, hr2⟩ := ht1
          obtain ⟨A3, c3, e3, hc3, hr3⟩ := own_rds hB.refAt.rcs
          cases e3
          refine St.ob_call Try.func13 (by kernel_rfl) rfl #[.slice A2 rs.length c2, .slice A0 rs.length c0] (by rfl) rfl (by (try simp only [List.map_toArray, List.map_cons, List.map_nil]); first | done | rfl | (simp only [List.length_drop, List.length_take]; rfl)) ?_
          refine (same_self A2 A0 rs c2 c0 w hr2 hr3 (by have := HM.out.1; have := HK.out; omega) hc2 hc3).mono ?_
          rintro e w1 ⟨rfl, hd⟩
          refine ⟨_, rfl, hd.below, ?_⟩
          rfl
        · intro w hB; rintro _ ⟨_, rfl⟩
          simp only [St.withD, List.nil_append, List.cons_append, Act.put, List.setIfInBounds_toArray, List.set_cons_zero, List.set_cons_succ]
          refine St.ob_value (v := ?_) (w' := w) (by rfl) ?_ ⟨Below.refl _ _, ?_⟩
          rotate_left
          · go_simp
            with_reducible rfl
          · rfl
      case hst => exact ⟨St.eqT_st, fun ds v w w' h hR => by (obtain ⟨A, c, e, hc, hr⟩ := h; exact ⟨A, c, e, hc, hr.below hR⟩), St.eqT_st, St.eqT_st, St.eqT_st, St.eqT_st, St.eqT_st, St.eqT_st, trivial⟩
      case h0 => exact HT.out.from fam_xa fam_yp (below_drew1 (Below.refl _ _))
      case hB => exact fun w w' h k => h.from fam_xa fam_yp k
      case hend =>
        intro w hB
        rintro _ rfl v1 ht1 _ rfl _ rfl _ rfl _ rfl _ rfl _ rfl
        simp only [List.map_cons, List.map_nil, List.nil_append, List.cons_append, List.getD_cons_zero, List.getD_cons_succ, Act.put, List.setIfInBounds_toArray, List.set_cons_zero, List.set_cons_succ]
        rw [St.withE_nil]
        have HF := Aside0.mk hB.bel
        clear hB ht1 HT
        go_wp2
        go_ret
        exact ⟨rfl, HF.out⟩
end Go.Proofs.Ytfijbhacobjjgac
