/- The walk of PaceRuns: it answers true. -/
import Derived.Test.YtfijbhacobjjgabPaceAwake
import Derived.Test.YtfijbhacobjjgabOpen
import Derived.Test.YtfijbhacobjjgabSteadyT
namespace Go.Proofs.Ytfijbhacobjjgab
open Go.RowKit Go.Proofs.YtfijbhacobjjgabW.PrintWords Go.Proofs.YtfijbhacobjjgabW.PrintLast Go.Proofs.YtfijbhacobjjgabW.PrintMore Go.Proofs.Ytfijbhacobjjgab.Fr
set_option linter.unusedVariables false
set_option linter.unusedSimpArgs false

attribute [local go_sem] max2_int min2_int max_two min_two
/-- The bucket, and the document's, side by side. -/
structure Two (w0 w : World) (g gw : Nat) (r b h h2 : Int) : Prop where
  bk : BucketAt w g r b h
  rf : w.heap[gw]? = some (.cells #[.int .i64 r, .int .i64 b, .int .i64 h2] 30 (0, 0))
  ne : g ≠ gw
  bel : Below w0.heap.size w0 w
  hg : w0.heap.size ≤ g
  hw : w0.heap.size ≤ gw
theorem Two.below {w0 w w1 : World} {g gw : Nat} {r b h h2 : Int} (x : Two w0 w g gw r b h h2) (k : Below w.heap.size w w1) : Two w0 w1 g gw r b h h2 := ⟨blk_below x.bk k, blk_below x.rf k, x.ne, below_step x.bel k, x.hg, x.hw⟩
theorem Two.setG {w0 w w1 : World} {g gw : Nat} {r b h h2 h' : Int} (x : Two w0 w g gw r b h h2) (hb : BucketAt w1 g r b h') (hc : Ch (fun i => i = g) w w1) : Two w0 w1 g gw r b h' h2 := ⟨hb, hc.blk x.rf (fun e => x.ne e.symm), x.ne, Ch.onto x.bel hc x.bel.size (fun i e => e ▸ x.hg), x.hg, x.hw⟩
theorem Two.setW {w0 w : World} {g gw : Nat} {r b h h2 : Int} (x : Two w0 w g gw r b h h2) (v : Int) : Two w0 (w.setCell ⟨gw, 2, none⟩ (.int .i64 v)) g gw r b h v := ⟨blk_far x.bk x.ne _, blk_put x.rf 2 _ rfl, x.ne, Ch.onto (S := fun i => i = gw) x.bel ((Ch.refl _ _).set rfl) x.bel.size (fun i e => e ▸ x.hw), x.hg, x.hw⟩
theorem and3 (x : Int) : bits .and .i64 x 3 = x % 4 := by
  unfold bits
  have h : (BitVec.ofInt 64 x &&& BitVec.ofInt 64 3).toNat = (x % 4).toNat := by
    rw [BitVec.toNat_and]
    have e : (BitVec.ofInt 64 3).toNat = 2 ^ 2 - 1 := by decide
    rw [e, Nat.and_two_pow_sub_one_eq_mod, BitVec.toNat_ofInt]
    omega
  show IntKind.i64.wrap ((BitVec.ofInt 64 x &&& BitVec.ofInt 64 3).toNat : Int) = x % 4
  rw [h, IntKind.wrap_i64]
  omega
theorem fld (r b h : Int) (w : World) : (Instr.field 30 (.agg #[.int .i64 r, .int .i64 b, .int .i64 h]) 2).run Try.prog w = .ok (.int .i64 h) w := by kernel_rfl
set_option maxRecDepth 100000 in
set_option maxHeartbeats 8000000 in
theorem runs_walk (rate : Int) (hr : (Lit.int .i64 rate).wf = true) (burst : Int) (hbt : (Lit.int .i64 burst).wf = true) (A : Option Addr) (len cap : Nat) (xs : List (Int × Int)) (w0 : World) (hcap : len ≤ cap) (hC : int2.C w0 A len xs) (hwf : ∀ p ∈ xs, (Lit.int .i64 p.1).wf = true ∧ (Lit.int .i64 p.2).wf = true) :
    Calls Try.prog 4 #[.int .i64 rate, .int .i64 burst, .slice A len cap] w0 fun e w' => e = .returned (.bool true) ∧ Below w0.heap.size w0 w' := by
  have HB := Aside0.mk (Below.refl w0.heap.size w0)
  have hlm : len ≤ 9223372036854775807 := hC.2.1
  have HRD : Aside0 (∀ k, k < len → ∃ (ad : Addr) (x n : Int), A = some ad ∧ w0.cell? (ad.add (k * 2)) = some (.int .i64 x) ∧ w0.cell? (ad.add (k * 2 + 1)) = some (.int .i64 n) ∧ -9223372036854775808 ≤ n ∧ n ≤ 9223372036854775807) := ⟨fun k hk => by
    obtain ⟨ad, he, hall⟩ := hC.2.2 (by omega)
    have hkl : k < xs.length := by rw [hC.1]; exact hk
    obtain ⟨c, _, hK, hcell⟩ := hall k _ (List.getElem?_eq_getElem hkl)
    have hK' : c = [.int .i64 (xs[k]).1, .int .i64 (xs[k]).2] := hK
    subst hK'
    have h1 := hwf _ (List.getElem_mem hkl)
    exact ⟨ad, (xs[k]).1, (xs[k]).2, he, hcell 0 _ rfl, hcell 1 _ rfl, wf_i64 h1.2⟩⟩
  clear hC hwf hr hbt
  by_cases hlen : 60 < len
  · have hd2 : decide ((60 : Int) < (len : Int)) = true := decide_eq_true (by omega)
    go_enter Try.func4, Try.ntmps4
    go_wp2_with ((go_at_call 6; refine (awake_any _).mono ?_; rintro e w1 ⟨rfl, hb⟩; have zz_HB := Aside0.mk (below_step HB.out hb); clear HB; have HB := zz_HB; clear zz_HB; clear hb))
    go_ret
    exact ⟨rfl, HB.out⟩
  · have hd2 : decide ((60 : Int) < (len : Int)) = false := decide_eq_false (by omega)
    have hl60 : len ≤ 60 := by omega
    clear hlen
    obtain ⟨r, hr⟩ : ∃ r, bring rate 0 1048576 = r := ⟨_, rfl⟩
    obtain ⟨bu, hbu⟩ : ∃ bu, bring burst 1 1048576 = bu := ⟨_, rfl⟩
    have hr01 : 0 ≤ r ∧ r ≤ 1048576 := by rw [← hr]; unfold bring mn mx; constructor <;> (repeat' split) <;> omega
    have hb01 : 1 ≤ bu ∧ bu ≤ 1048576 := by rw [← hbu]; unfold bring mn mx; constructor <;> (repeat' split) <;> omega
    have hr' : bringR rate 0 1048576 = r := by rw [← hr]; unfold bring mn mx bringR; (repeat' split) <;> omega
    have hbu' : bringR burst 1 1048576 = bu := by rw [← hbu]; unfold bring mn mx bringR; (repeat' split) <;> omega
    obtain ⟨hr0, hr1⟩ := hr01
    obtain ⟨hb0, hb1⟩ := hb01
    have HNW : Aside0 (∀ w, Calls Try.prog 9 #[.int .i64 rate, .int .i64 burst] w fun e w' => ∃ g, e = .returned (.pointer (some ⟨g, 0, none⟩)) ∧ BucketAt w' g r bu bu ∧ Below w.heap.size w w' ∧ w.heap.size ≤ g) := ⟨fun w => by have := new_any rate burst w; rwa [hr, hbu] at this⟩
    have HNR : Aside0 (∀ w, Calls Try.prog 10 #[.int .i64 rate, .int .i64 burst] w fun e w' => e = .returned (.agg #[.int .i64 r, .int .i64 bu, .int .i64 bu]) ∧ Below w.heap.size w w') := ⟨fun w => by have := newR_any rate burst w; rwa [hr', hbu'] at this⟩
    clear hr hbu hr' hbu'
    go_enter Try.func4, Try.ntmps4
    go_wp2_with fail
    refine (awake_any _).mono ?_
    rintro e w1 ⟨rfl, hb⟩
    have zz_HB := Aside0.mk (below_step HB.out hb); clear HB; have HB := zz_HB; clear zz_HB
    clear hb
    go_wp2_with fail
    refine (HNW.out _).mono ?_
    rintro e w2 ⟨g, rfl, hbk, hbel, hg⟩
    have HT : Aside0 (BucketAt w2 g r bu bu ∧ Below w0.heap.size w0 w2 ∧ w0.heap.size ≤ g) := ⟨hbk, below_step HB.out hbel, Nat.le_trans HB.out.size hg⟩
    clear hbk hbel hg HB
    go_wp2_with fail
    refine (HNR.out _).mono ?_
    rintro e w3 ⟨rfl, hbel⟩
    have HT3 : Aside0 (BucketAt w3 g r bu bu ∧ Below w0.heap.size w0 w3 ∧ w0.heap.size ≤ g) := ⟨blk_below HT.out.1 hbel, below_step HT.out.2.1 hbel, HT.out.2.2⟩
    clear hbel HT
    go_wp2_with fail
    have HT : Aside0 (Two w0 (w3.alloc (.cells #[.int .i64 r, .int .i64 bu, .int .i64 bu] 30)) g w3.heap.size r bu bu bu) := ⟨by
      have hlt := blk_lt HT3.out.1
      exact ⟨blk_below HT3.out.1 (below_alloc (Below.refl _ _) _), blk_new w3 _, by omega, below_alloc HT3.out.2.1 _, HT3.out.2.2, HT3.out.2.1.size⟩⟩
    clear HT3
    generalize w3.alloc (.cells #[.int .i64 r, .int .i64 bu, .int .i64 bu] 30) = W at HT ⊢
    generalize w3.heap.size = gw at HT ⊢
    go_loopg [29] len (fun d y wr => ∃ (k : Nat) (h : Int), Aside0 (k + d = len) ∧ y = .int .i64 k ∧ Aside0 (Two w0 wr g gw r bu h h ∧ 0 ≤ h ∧ h ≤ bu))
    case atStart => exact ⟨0, bu, ⟨by omega⟩, rfl, ⟨HT.out, by omega, Int.le_refl _⟩⟩
    case round =>
      clear HT
      obtain ⟨k, h, HK, rfl, HTT⟩ := hrel
      have hh0 := HTT.out.2.1
      have hh1 := HTT.out.2.2
      by_cases hlt : k < len
      · obtain ⟨ad, x, n, rfl, hc0, hc1, hn0, hn1⟩ := HRD.out k hlt
        have hc2 := pw_cell_below HTT.out.1.bel hc0
        have hc3 := pw_cell_below HTT.out.1.bel hc1
        rw [← add_add, cell_off _ (by decide)] at hc3
        clear hc0 hc1
        have HT : Aside0 (Two w0 (wr.alloc (.cells #[.int .i64 x, .int .i64 n] 32)) g gw r bu h h) := ⟨HTT.out.1.below (below_alloc (Below.refl _ _) _)⟩
        have cw0 : wr.cell? ⟨gw, 0, none⟩ = some (.int .i64 r) := (blk_cell HTT.out.1.rf 0).trans rfl
        have cw1 : wr.cell? ⟨gw, 1, none⟩ = some (.int .i64 bu) := (blk_cell HTT.out.1.rf 1).trans rfl
        have cw2 : wr.cell? ⟨gw, 2, none⟩ = some (.int .i64 h) := (blk_cell HTT.out.1.rf 2).trans rfl
        have fw0 := blk_frozen HTT.out.1.rf 0
        have fw1 := blk_frozen HTT.out.1.rf 1
        have fw2 := blk_frozen HTT.out.1.rf 2
        have hgw := blk_lt HTT.out.1.rf
        clear HTT
        have hm : x % 4 = 0 ∨ x % 4 = 1 ∨ x % 4 = 2 ∨ x % 4 = 3 := by omega
        rcases hm with hm | hm | hm | hm
        · have hand : bits .and .i64 x 3 = 0 := by rw [and3, hm]
          have HM := Aside0.mk hm
          clear hm
          by_cases q0 : n < 0
          · have hd0 : decide ((0 : Int) ≤ n) = false := decide_eq_false (by omega)
            go_wp2_with fail
            generalize wr.alloc (.cells #[.int .i64 x, .int .i64 n] 32) = V at HT ⊢
            refine (take_no g r bu h n _ HT.out.bk (.inl q0)).mono ?_
            rintro e w4 ⟨rfl, rfl⟩
            go_wp2
            have cw9 : V.cell? ⟨gw, 2, none⟩ = some (.int .i64 (h)) := (blk_cell HT.out.rf 2).trans rfl
            go_quiet ((first | (go_at_call 17; exact q_same (has_any g r bu (h) _ (HT.out.below (Drawn0.below ⟨⟨_, rfl⟩⟩)).bk))))
            go_wp2
            go_roundg (gk - 1)
            case measure => have := HK.out; omega
            case rel => exact ⟨k + 1, (h), ⟨by have := HK.out; omega⟩, by go_num, ⟨HT.out.below (Drawn0.below (Drawn0.step (Drawn0.refl _) _)), by omega, by omega⟩⟩
          · have hd0 : decide ((0 : Int) ≤ n) = true := decide_eq_true (by omega)
            by_cases q1 : n ≤ h
            · have hd1 : decide (n ≤ h) = true := decide_eq_true q1
              go_wp2_with fail
              generalize wr.alloc (.cells #[.int .i64 x, .int .i64 n] 32) = V at HT ⊢
              refine (take_yes g r bu h n _ HT.out.bk (by omega) q1 (by omega)).mono ?_
              rintro e w4 ⟨rfl, hbk, hch⟩
              have HT4 := Aside0.mk (HT.out.setG hbk hch)
              clear hbk hch HT
              have cv2 : w4.cell? ⟨gw, 2, none⟩ = some (.int .i64 h) := (blk_cell HT4.out.rf 2).trans rfl
              have fv2 := blk_frozen HT4.out.rf 2
              have HT5 := Aside0.mk (HT4.out.setW (h - n))
              go_wp2
              generalize w4.setCell ⟨gw, 2, none⟩ (.int .i64 (h - n)) = V5 at HT5 ⊢
              have cw9 : V5.cell? ⟨gw, 2, none⟩ = some (.int .i64 (h - n)) := (blk_cell HT5.out.rf 2).trans rfl
              go_quiet ((first | (go_at_call 17; exact q_same (has_any g r bu (h - n) _ (HT5.out.below (Drawn0.below ⟨⟨_, rfl⟩⟩)).bk))))
              go_wp2
              go_roundg (gk - 1)
              case measure => have := HK.out; omega
              case rel => exact ⟨k + 1, (h - n), ⟨by have := HK.out; omega⟩, by go_num, ⟨HT5.out.below (Drawn0.below (Drawn0.step (Drawn0.refl _) _)), by omega, by omega⟩⟩
            · have hd1 : decide (n ≤ h) = false := decide_eq_false q1
              go_wp2_with fail
              generalize wr.alloc (.cells #[.int .i64 x, .int .i64 n] 32) = V at HT ⊢
              refine (take_no g r bu h n _ HT.out.bk (.inr (by omega))).mono ?_
              rintro e w4 ⟨rfl, rfl⟩
              go_wp2
              have cw9 : V.cell? ⟨gw, 2, none⟩ = some (.int .i64 (h)) := (blk_cell HT.out.rf 2).trans rfl
              go_quiet ((first | (go_at_call 17; exact q_same (has_any g r bu (h) _ (HT.out.below (Drawn0.below ⟨⟨_, rfl⟩⟩)).bk))))
              go_wp2
              go_roundg (gk - 1)
              case measure => have := HK.out; omega
              case rel => exact ⟨k + 1, (h), ⟨by have := HK.out; omega⟩, by go_num, ⟨HT.out.below (Drawn0.below (Drawn0.step (Drawn0.refl _) _)), by omega, by omega⟩⟩
        · have hand : bits .and .i64 x 3 = 1 := by rw [and3, hm]
          have HM := Aside0.mk hm
          clear hm
          obtain ⟨q, hq⟩ : ∃ q, bringR n 0 h = q := ⟨_, rfl⟩
          have hq0 : 0 ≤ q ∧ q ≤ h := by rw [← hq]; unfold bringR; constructor <;> (repeat' split) <;> omega
          have hq' : bring n 0 h = q := by rw [← hq]; unfold bring mn mx bringR; (repeat' split) <;> omega
          have HBR : Aside0 (∀ w, Calls Try.prog 12 #[.int .i64 n, .int .i64 0, .int .i64 h] w fun e w' => e = .returned (.int .i64 q) ∧ w = w') := ⟨fun w => hq ▸ bringR_any n 0 h w⟩
          have HSM : Aside0 (∀ w, BucketAt w g r bu h → Calls Try.prog 13 #[.pointer (some ⟨g, 0, none⟩), .int .i64 n] w fun e w' => e = .returned (.int .i64 q) ∧ BucketAt w' g r bu (h - q) ∧ Ch (fun i => i = g) w w') := ⟨fun w hb => some_any g r bu h n q hq' w hb hh0 (by omega)⟩
          clear hq hq'
          obtain ⟨hq1, hq2⟩ := hq0
          go_wp2_with fail
          refine (HBR.out _).mono ?_
          rintro e w4 ⟨rfl, rfl⟩
          go_wp2_with fail
          generalize wr.alloc (.cells #[.int .i64 x, .int .i64 n] 32) = V at HT ⊢
          refine (HSM.out _ HT.out.bk).mono ?_
          rintro e w4 ⟨rfl, hbk, hch⟩
          have HT4 := Aside0.mk (HT.out.setG hbk hch)
          clear hbk hch HT
          have cv2 : w4.cell? ⟨gw, 2, none⟩ = some (.int .i64 h) := (blk_cell HT4.out.rf 2).trans rfl
          have fv2 := blk_frozen HT4.out.rf 2
          have HT5 := Aside0.mk (HT4.out.setW (h - q))
          go_wp2
          generalize w4.setCell ⟨gw, 2, none⟩ (.int .i64 (h - q)) = V5 at HT5 ⊢
          have cw9 : V5.cell? ⟨gw, 2, none⟩ = some (.int .i64 (h - q)) := (blk_cell HT5.out.rf 2).trans rfl
          go_quiet ((first | (go_at_call 17; exact q_same (has_any g r bu (h - q) _ (HT5.out.below (Drawn0.below ⟨⟨_, rfl⟩⟩)).bk))))
          go_wp2
          go_roundg (gk - 1)
          case measure => have := HK.out; omega
          case rel => exact ⟨k + 1, (h - q), ⟨by have := HK.out; omega⟩, by go_num, ⟨HT5.out.below (Drawn0.below (Drawn0.step (Drawn0.refl _) _)), by omega, by omega⟩⟩
        · have hand : bits .and .i64 x 3 = 2 := by rw [and3, hm]
          have HM := Aside0.mk hm
          clear hm
          obtain ⟨y, hy⟩ : ∃ y, bringR n 0 1048576 = y := ⟨_, rfl⟩
          obtain ⟨z, hz⟩ : ∃ z, bringR (h + r * y) 0 bu = z := ⟨_, rfl⟩
          have hy0 : 0 ≤ y := by rw [← hy]; unfold bringR; (repeat' split) <;> omega
          have hry : 0 ≤ r * y := Int.mul_nonneg hr0 hy0
          have hy' : bring n 0 1048576 = y := by rw [← hy]; unfold bring mn mx bringR; (repeat' split) <;> omega
          have hz' : mn (h + r * y) bu = z := by rw [← hz]; unfold mn bringR; (repeat' split) <;> omega
          have hz0 : 0 ≤ z ∧ z ≤ bu := by rw [← hz]; unfold bringR; constructor <;> (repeat' split) <;> omega
          have HTR : Aside0 (∀ w, Calls Try.prog 14 #[.agg #[.int .i64 r, .int .i64 bu, .int .i64 h], .int .i64 n] w fun e w' => e = .returned (.agg #[.int .i64 r, .int .i64 bu, .int .i64 z]) ∧ Below w.heap.size w w') := ⟨fun w => tickR_any r bu h n y z hy hz w hr0 hr1 hh0 (by omega)⟩
          have HTK : Aside0 (∀ w, BucketAt w g r bu h → Calls Try.prog 15 #[.pointer (some ⟨g, 0, none⟩), .int .i64 n] w fun e w' => e = .returned (.int .i64 z) ∧ BucketAt w' g r bu z ∧ Ch (fun i => i = g) w w') := ⟨fun w hb => by
            have := tick_any g r bu h n y hy' w hb hr0 hr1 hh0 (by omega)
            rwa [hz'] at this⟩
          clear hy hz hy' hz' hry hy0
          obtain ⟨hz1, hz2⟩ := hz0
          go_wp2_with fail
          refine (HTR.out _).mono ?_
          rintro e w4 ⟨rfl, hbel⟩
          have HT4 := Aside0.mk (HT.out.below hbel)
          clear hbel HT
          have cv0 : w4.cell? ⟨gw, 0, none⟩ = some (.int .i64 r) := (blk_cell HT4.out.rf 0).trans rfl
          have cv1 : w4.cell? ⟨gw, 1, none⟩ = some (.int .i64 bu) := (blk_cell HT4.out.rf 1).trans rfl
          have cv2 : w4.cell? ⟨gw, 2, none⟩ = some (.int .i64 h) := (blk_cell HT4.out.rf 2).trans rfl
          have fv0 := blk_frozen HT4.out.rf 0
          have fv1 := blk_frozen HT4.out.rf 1
          have fv2 := blk_frozen HT4.out.rf 2
          have HT : Aside0 (Two w0 (((w4.setCell ⟨gw, 0, none⟩ (.int .i64 r)).setCell ⟨gw, 1, none⟩ (.int .i64 bu)).setCell ⟨gw, 2, none⟩ (.int .i64 z)) g gw r bu h z) := ⟨by
            have x := HT4.out
            exact ⟨blk_far (blk_far (blk_far x.bk x.ne _) x.ne _) x.ne _, blk_put (blk_put (blk_put x.rf 0 _ rfl) 1 _ rfl) 2 _ rfl, x.ne, Ch.onto (S := fun i => i = gw) x.bel ((((Ch.refl (fun i => i = gw) _).set rfl).set rfl).set rfl) x.bel.size (fun i e => e ▸ x.hw), x.hg, x.hw⟩⟩
          go_wp2
          generalize ((w4.setCell ⟨gw, 0, none⟩ (.int .i64 r)).setCell ⟨gw, 1, none⟩ (.int .i64 bu)).setCell ⟨gw, 2, none⟩ (.int .i64 z) = V at HT ⊢
          refine St.steadyG (n := 6) (by kernel_rfl) ([] :: [] :: [(0, 80), (1, 81)] :: [] :: [(3, 83)] :: [(2, 82), (4, 84)] :: []) (some 80 :: some 81 :: some 82 :: some 83 :: some 84 :: some 85 :: []) (by kernel_rfl) ((St.eqT ?c24_0x3) :: (St.eqT ?c24_1x3) :: (St.eqT ?c24_2x3) :: (St.eqT ?c24_3x3) :: (St.eqT ?c24_4x3) :: (St.eqT ?c24_5x3) :: []) rfl (by rfl) (fun fl w' => Two w0 w' g gw r bu (bif fl 2 then z else h) z) (fun i wa wb => (i = 2 → ∀ x, Two w0 wa g gw r bu x z → Two w0 wb g gw r bu z z) ∧ (i ≠ 2 → wa = wb)) ?hst ?h0 (fun i w' => ∃ x, Two w0 w' g gw r bu x z ∧ (i = 2 → x = h)) ?hB ?hG ?hop ?hend
          case hop =>
            refine ⟨?_, ?_, ?_, ?_, ?_, ?_, trivial⟩
            · intro w hB
              simp only [St.withD]
              refine St.ob_value (v := ?_) (w' := w) (by rfl) ?_ ⟨⟨fun e => absurd e (by decide), fun _ => rfl⟩, ?_⟩
              rotate_left
              · go_simp
                with_reducible rfl
              · rfl
            · intro w hB
              simp only [St.withD]
              refine St.ob_value (v := ?_) (w' := w) (by rfl) ?_ ⟨⟨fun e => absurd e (by decide), fun _ => rfl⟩, ?_⟩
              rotate_left
              · go_simp
                with_reducible rfl
              · rfl
            · intro w hB; rintro _ ⟨_, rfl⟩ _ ⟨_, rfl⟩
              simp only [St.withD, List.nil_append, List.cons_append, Act.put, List.setIfInBounds_toArray, List.set_cons_zero, List.set_cons_succ]
              obtain ⟨x, hX, hx⟩ := hB
              obtain rfl := hx rfl
              refine St.ob_call Try.func15 (by kernel_rfl) rfl #[.pointer (some ⟨g, 0, none⟩), .int .i64 n] (by rfl) rfl (by (try simp only [List.map_toArray, List.map_cons, List.map_nil]); first | done | rfl | (simp only [List.length_drop, List.length_take]; rfl)) ?_
              refine (HTK.out w hX.bk).mono ?_
              rintro e w1 ⟨rfl, hbk, hch⟩
              refine ⟨_, rfl, ⟨fun _ x' hx' => hX.setG hbk hch, fun e => absurd rfl e⟩, ?_⟩
              rfl
            · intro w hB
              simp only [St.withD]
              refine St.ob_value (v := ?_) (w' := w) (by rfl) ?_ ⟨⟨fun e => absurd e (by decide), fun _ => rfl⟩, ?_⟩
              rotate_left
              · go_simp
                with_reducible rfl
              · rfl
            · intro w hB; rintro _ ⟨_, rfl⟩
              simp only [St.withD, List.nil_append, List.cons_append, Act.put, List.setIfInBounds_toArray, List.set_cons_zero, List.set_cons_succ]
              obtain ⟨x, hX, _⟩ := hB
              have c0 : w.cell? ⟨gw, 2, none⟩ = some (.int .i64 z) := (blk_cell hX.rf 2).trans rfl
              refine St.ob_value (v := ?_) (w' := w) (by rfl) ?_ ⟨⟨fun e => absurd e (by decide), fun _ => rfl⟩, ?_⟩
              rotate_left
              · go_simp
                with_reducible rfl
              · rfl
            · intro w hB; rintro _ ⟨_, rfl⟩ _ ⟨_, rfl⟩
              simp only [St.withD, List.nil_append, List.cons_append, Act.put, List.setIfInBounds_toArray, List.set_cons_zero, List.set_cons_succ]
              refine St.ob_value (v := ?_) (w' := w) (by rfl) ?_ ⟨⟨fun e => absurd e (by decide), fun _ => rfl⟩, ?_⟩
              rotate_left
              · go_simp
                with_reducible rfl
              · rfl
          case hst =>
            intro i j fl hi hj _ _ _ ds v wa wb ht _
            refine St.sts_get (Rel := fun _ _ _ => True) 0 _ j (by simpa using hj) ?_ ds v wa wb ht trivial
            exact ⟨St.eqT_st, St.eqT_st, St.eqT_st, St.eqT_st, St.eqT_st, St.eqT_st, trivial⟩
          case h0 => exact HT.out.below (below_drew1 (Below.refl _ _))
          case hB => exact fun i fl w' hi hfi _ _ hG => ⟨_, hG, fun e => by subst e; rw [hfi]; rfl⟩
          case hG => (
            intro i fl wa wb hi hfi _ _ hG hR
            by_cases h2 : i = 2
            · subst h2
              have := hR.1 rfl _ hG
              simpa [St.upB] using this
            · have e := hR.2 h2
              subst e
              have e2 : St.upB fl i 2 = fl 2 := by unfold St.upB; rw [if_neg (Ne.symm h2)]
              simpa only [e2] using hG)
          case hend =>
            intro fl w hall hB
            rintro _ rfl _ rfl _ rfl _ rfl _ rfl _ rfl
            simp only [List.map_cons, List.map_nil, List.nil_append, List.cons_append, List.getD_cons_zero, List.getD_cons_succ, Act.put, List.setIfInBounds_toArray, List.set_cons_zero, List.set_cons_succ]
            rw [St.withE_nil]
            have HT2 : Aside0 (Two w0 w g gw r bu z z) := ⟨by have h2 := hall 2 (by decide); simpa only [h2, cond_true] using hB⟩
            clear hB hall
            go_wp2
            have cw9 : w.cell? ⟨gw, 2, none⟩ = some (.int .i64 (z)) := (blk_cell HT2.out.rf 2).trans rfl
            go_quiet ((first | (go_at_call 17; exact q_same (has_any g r bu (z) _ (HT2.out.below (Drawn0.below ⟨⟨_, rfl⟩⟩)).bk))))
            go_wp2
            go_roundg (gk - 1)
            case measure => have := HK.out; omega
            case rel => exact ⟨k + 1, (z), ⟨by have := HK.out; omega⟩, by go_num, ⟨HT2.out.below (Drawn0.below (Drawn0.step (Drawn0.refl _) _)), by omega, by omega⟩⟩
        · have hand : bits .and .i64 x 3 = 3 := by rw [and3, hm]
          have HM := Aside0.mk hm
          clear hm
          have HWT : Aside0 (∀ w, BucketAt w g r bu h → Calls Try.prog 16 #[.pointer (some ⟨g, 0, none⟩), .int .i64 n] w fun e w' => e = .returned (.tuple #[.int .i64 (waitV r bu h n).1, .bool (waitV r bu h n).2]) ∧ Drawn0 w w') := ⟨fun w hb => wait_any g r bu h n w hb hr0 hr1 hh0 hh1 hb1⟩
          have HTR : Aside0 (∀ w m y z, bringR m 0 1048576 = y → bringR (h + r * y) 0 bu = z → Calls Try.prog 14 #[.agg #[.int .i64 r, .int .i64 bu, .int .i64 h], .int .i64 m] w fun e w' => e = .returned (.agg #[.int .i64 r, .int .i64 bu, .int .i64 z]) ∧ Below w.heap.size w w') := ⟨fun w m y z hy hz => tickR_any r bu h m y z hy hz w hr0 hr1 hh0 (by omega)⟩
          have hfld := fld r bu
          have cells : Aside0 (∀ w, Two w0 w g gw r bu h h → w.cell? ⟨gw, 0, none⟩ = some (.int .i64 r) ∧ w.cell? ⟨gw, 1, none⟩ = some (.int .i64 bu) ∧ w.cell? ⟨gw, 2, none⟩ = some (.int .i64 h)) := ⟨fun w x => ⟨(blk_cell x.rf 0).trans rfl, (blk_cell x.rf 1).trans rfl, (blk_cell x.rf 2).trans rfl⟩⟩
          by_cases q0 : bu < n
          · have E : Aside0 (waitV r bu h n = (0, false)) := ⟨by unfold waitV; rw [if_pos q0]⟩
            have hd1 : decide (n ≤ bu) = false := decide_eq_false (by omega)
            go_wp2_with fail
            generalize wr.alloc (.cells #[.int .i64 x, .int .i64 n] 32) = V at HT ⊢
            refine (HWT.out _ HT.out.bk).mono ?_
            rintro e w4 ⟨rfl, hdr⟩
            rw [E.out]
            have HT4 := Aside0.mk (HT.out.below hdr.below)
            clear hdr HT
            obtain ⟨cv0, cv1, cv2⟩ := cells.out _ HT4.out
            go_wp2
            have cw9 : w4.cell? ⟨gw, 2, none⟩ = some (.int .i64 (h)) := (blk_cell HT4.out.rf 2).trans rfl
            go_quiet ((first | (go_at_call 17; exact q_same (has_any g r bu (h) _ (HT4.out.below (Drawn0.below ⟨⟨_, rfl⟩⟩)).bk))))
            go_wp2
            go_roundg (gk - 1)
            case measure => have := HK.out; omega
            case rel => exact ⟨k + 1, (h), ⟨by have := HK.out; omega⟩, by go_num, ⟨HT4.out.below (Drawn0.below (Drawn0.step (Drawn0.refl _) _)), by omega, by omega⟩⟩
          · have q0' : n ≤ bu := by omega
            have hd1 : decide (n ≤ bu) = true := decide_eq_true q0'
            by_cases q1 : n ≤ h
            · have E : Aside0 (waitV r bu h n = (0, true)) := ⟨by unfold waitV; rw [if_neg q0, if_pos q1]⟩
              have hd2 : decide (n ≤ h) = true := decide_eq_true q1
              have hd3 : decide (h < n) = false := decide_eq_false (by omega)
              go_wp2_with fail
              generalize wr.alloc (.cells #[.int .i64 x, .int .i64 n] 32) = V at HT ⊢
              refine (HWT.out _ HT.out.bk).mono ?_
              rintro e w4 ⟨rfl, hdr⟩
              rw [E.out]
              have HT4 := Aside0.mk (HT.out.below hdr.below)
              clear hdr HT
              obtain ⟨cv0, cv1, cv2⟩ := cells.out _ HT4.out
              go_wp2_with fail
              refine (HTR.out _ 0 0 h (by decide) (by rw [Int.mul_zero, Int.add_zero]; unfold bringR; (repeat' split) <;> omega)).mono ?_
              rintro e w5 ⟨rfl, hbel⟩
              have HT5 := Aside0.mk (HT4.out.below hbel)
              clear hbel HT4 cv0 cv1 cv2
              obtain ⟨cv0, cv1, cv2⟩ := cells.out _ HT5.out
              go_wp2
              have cw9 : w5.cell? ⟨gw, 2, none⟩ = some (.int .i64 (h)) := (blk_cell HT5.out.rf 2).trans rfl
              go_quiet ((first | (go_at_call 17; exact q_same (has_any g r bu (h) _ (HT5.out.below (Drawn0.below ⟨⟨_, rfl⟩⟩)).bk))))
              go_wp2
              go_roundg (gk - 1)
              case measure => have := HK.out; omega
              case rel => exact ⟨k + 1, (h), ⟨by have := HK.out; omega⟩, by go_num, ⟨HT5.out.below (Drawn0.below (Drawn0.step (Drawn0.refl _) _)), by omega, by omega⟩⟩
            · have hd2 : decide (n ≤ h) = false := decide_eq_false q1
              by_cases q2 : r = 0
              · have E : Aside0 (waitV r bu h n = (0, false)) := ⟨by unfold waitV; rw [if_neg q0, if_neg q1, if_pos q2]⟩
                have hd3 : decide (0 < r) = false := decide_eq_false (by omega)
                have HQ2 := Aside0.mk q2
                clear q2
                go_wp2_with fail
                generalize wr.alloc (.cells #[.int .i64 x, .int .i64 n] 32) = V at HT ⊢
                refine (HWT.out _ HT.out.bk).mono ?_
                rintro e w4 ⟨rfl, hdr⟩
                rw [E.out]
                have HT4 := Aside0.mk (HT.out.below hdr.below)
                clear hdr HT
                obtain ⟨cv0, cv1, cv2⟩ := cells.out _ HT4.out
                go_wp2
                have cw9 : w4.cell? ⟨gw, 2, none⟩ = some (.int .i64 (h)) := (blk_cell HT4.out.rf 2).trans rfl
                go_quiet ((first | (go_at_call 17; exact q_same (has_any g r bu (h) _ (HT4.out.below (Drawn0.below ⟨⟨_, rfl⟩⟩)).bk))))
                go_wp2
                go_roundg (gk - 1)
                case measure => have := HK.out; omega
                case rel => exact ⟨k + 1, (h), ⟨by have := HK.out; omega⟩, by go_num, ⟨HT4.out.below (Drawn0.below (Drawn0.step (Drawn0.refl _) _)), by omega, by omega⟩⟩
              · have hrp : 0 < r := by omega
                have hd3 : decide (0 < r) = true := decide_eq_true hrp
                obtain ⟨q, hq⟩ : ∃ q, (n - h + r - 1) / r = q := ⟨_, rfl⟩
                have E : Aside0 (waitV r bu h n = (q, true)) := ⟨by unfold waitV; rw [if_neg q0, if_neg q1, if_neg q2, hq]⟩
                have e1 : q * r ≤ n - h + r - 1 := by rw [← hq]; exact Int.ediv_mul_le _ (by omega)
                have e2 : n - h + r - 1 < (q + 1) * r := by rw [← hq]; exact Int.lt_ediv_add_one_mul_self _ hrp
                have e3 : (q + 1) * r = q * r + r := by rw [Int.add_mul, Int.one_mul]
                have e4 : (q - 1) * r = q * r - r := by rw [Int.sub_mul, Int.one_mul]
                have hq1 : 1 ≤ q := by
                  refine Decidable.byContradiction fun hc => ?_
                  have : q * r ≤ 0 := Int.mul_nonpos_of_nonpos_of_nonneg (by omega) hr0
                  omega
                have hq2 : q ≤ 1048576 := by
                  refine Decidable.byContradiction fun hc => ?_
                  have : 1048577 * r ≤ q * r := Int.mul_le_mul_of_nonneg_right (by omega) hr0
                  have : (1048577 : Int) * r = 1048576 * r + r := by omega
                  omega
                obtain ⟨z, hz⟩ : ∃ z, bringR (h + r * q) 0 bu = z := ⟨_, rfl⟩
                obtain ⟨z1, hz1⟩ : ∃ z1, bringR (h + r * (q - 1)) 0 bu = z1 := ⟨_, rfl⟩
                have hzn : n ≤ z := by rw [← hz, Int.mul_comm]; unfold bringR; (repeat' split) <;> omega
                have hzn1 : z1 < n := by
                  have e5 : 0 ≤ (q - 1) * r := Int.mul_nonneg (by omega) hr0
                  rw [← hz1, Int.mul_comm]; unfold bringR; (repeat' split) <;> omega
                have hb1' : bringR q 0 1048576 = q := by unfold bringR; (repeat' split) <;> omega
                have hb2' : bringR (q - 1) 0 1048576 = q - 1 := by unfold bringR; (repeat' split) <;> omega
                have HC1 : Aside0 (∀ w, Calls Try.prog 14 #[.agg #[.int .i64 r, .int .i64 bu, .int .i64 h], .int .i64 q] w fun e w' => e = .returned (.agg #[.int .i64 r, .int .i64 bu, .int .i64 z]) ∧ Below w.heap.size w w') := ⟨fun w => HTR.out w q q z hb1' hz⟩
                have HC2 : Aside0 (∀ w, Calls Try.prog 14 #[.agg #[.int .i64 r, .int .i64 bu, .int .i64 h], .int .i64 (q - 1)] w fun e w' => e = .returned (.agg #[.int .i64 r, .int .i64 bu, .int .i64 z1]) ∧ Below w.heap.size w w') := ⟨fun w => HTR.out w (q - 1) (q - 1) z1 hb2' hz1⟩
                have hd4 : decide (q < 0) = false := decide_eq_false (by omega)
                have hd5 : decide (z < n) = false := decide_eq_false (by omega)
                have hd6 : decide (0 < q) = true := decide_eq_true (by omega)
                have hd7 : decide (n ≤ z1) = false := decide_eq_false (by omega)
                clear hq e1 e2 e3 e4 hz hz1 hb1' hb2' q2
                go_wp2_with fail
                generalize wr.alloc (.cells #[.int .i64 x, .int .i64 n] 32) = V at HT ⊢
                refine (HWT.out _ HT.out.bk).mono ?_
                rintro e w4 ⟨rfl, hdr⟩
                rw [E.out]
                have HT4 := Aside0.mk (HT.out.below hdr.below)
                clear hdr HT
                obtain ⟨cv0, cv1, cv2⟩ := cells.out _ HT4.out
                go_wp2_with fail
                refine (HC1.out _).mono ?_
                rintro e w5 ⟨rfl, hbel⟩
                have HT5 := Aside0.mk (HT4.out.below hbel)
                clear hbel HT4 cv0 cv1 cv2
                obtain ⟨cv0, cv1, cv2⟩ := cells.out _ HT5.out
                go_wp2_with fail
                refine (HC2.out _).mono ?_
                rintro e w6 ⟨rfl, hbel⟩
                have HT6 := Aside0.mk (HT5.out.below hbel)
                clear hbel HT5 cv0 cv1 cv2
                obtain ⟨cv0, cv1, cv2⟩ := cells.out _ HT6.out
                go_wp2
                have cw9 : w6.cell? ⟨gw, 2, none⟩ = some (.int .i64 (h)) := (blk_cell HT6.out.rf 2).trans rfl
                go_quiet ((first | (go_at_call 17; exact q_same (has_any g r bu (h) _ (HT6.out.below (Drawn0.below ⟨⟨_, rfl⟩⟩)).bk))))
                go_wp2
                go_roundg (gk - 1)
                case measure => have := HK.out; omega
                case rel => exact ⟨k + 1, (h), ⟨by have := HK.out; omega⟩, by go_num, ⟨HT6.out.below (Drawn0.below (Drawn0.step (Drawn0.refl _) _)), by omega, by omega⟩⟩
      · go_wp2
        go_ret
        exact ⟨rfl, HTT.out.1.bel⟩
end Go.Proofs.Ytfijbhacobjjgab
