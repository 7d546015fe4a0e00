/- What is on top goes down. -/
import Derived.Test.YtfijbhacobjjgahMetA
namespace Go.Proofs.Ytfijbhacobjjgah
open Go.RowKit Go.Proofs.YtfijbhacobjjgahW.PrintWords Go.Proofs.YtfijbhacobjjgahW.PrintLast Go.Proofs.YtfijbhacobjjgahW.PrintMore Go.Proofs.Ytfijbhacobjjgah.Fr
set_option linter.unusedVariables false
set_option linter.unusedSimpArgs false
attribute [local go_sem] max2_int min2_int max_two min_two

open Pl Hp
def Bl (e : Ending) : Prop := ∃ r, e = .returned (.bool r)
set_option maxHeartbeats 4000000 in
theorem down_any (B s g c : Nat) (n : Nat) (w0 : World) (l0 : List E) (i0 : Nat) (h : HH B w0 s g c l0) (hn : n ≤ l0.length) (hl : l0.length ≤ 100000) (hi : i0 ≤ 100000) :
    Calls Try.prog 25 #[PI s, .int .i64 i0, .int .i64 n] w0 fun e w' => Bl e ∧ HH B w' s g c (down ilt ez l0 i0 n) ∧ Ch (fun k => k = g) w0 w' := by
  have H := Aside0.mk h
  have HN := Aside0.mk (And.intro hn hl)
  clear h hn
  go_enter Try.func25, Try.ntmps25
  go_wp2_with fail
  go_loopg [7] (n - i0) (fun d x7 wr => ∃ (l : List E) (i : Nat), n - i = d ∧ x7 = .int .i64 i ∧ Aside0 (l.length = l0.length ∧ i ≤ 100000 ∧ down ilt ez l i n = down ilt ez l0 i0 n) ∧ Aside0 (HH B wr s g c l) ∧ Aside0 (Ch (fun k => k = g) w0 wr))
  case atStart => exact ⟨l0, i0, rfl, rfl, ⟨rfl, hi, rfl⟩, H, ⟨Ch.refl _ _⟩⟩
  case round =>
    obtain ⟨l, i, hgk, rfl, HI, HW, HC⟩ := hrel
    have hi0 : (0 : Int) ≤ i := by omega
    have hi1 : (i : Int) ≤ 100000 := by have := HI.out; omega
    have hwm : IntKind.i64.wrap (2 * (i : Int)) = 2 * i := by rw [IntKind.wrap_i64]; omega
    have hp1 : ¬ (2 * (i : Int) + 1) < 0 := by omega
    by_cases h1 : 2 * i + 1 < n
    · have hll : n ≤ l.length := by have := HI.out.1; have := HN.out; omega
      have hc1 : 2 * i + 1 < l.length := by omega
      have hil : i < l.length := by omega
      have h1I : (2 * (i : Int) + 1) < n := by omega
      obtain ⟨j1, hj1⟩ : ∃ j, 2 * i + 1 = j := ⟨_, rfl⟩
      have hj1I : (2 * (i : Int) + 1) = j1 := by omega
      obtain ⟨j2, hj2⟩ : ∃ j, 2 * i + 2 = j := ⟨_, rfl⟩
      have hwm2 : IntKind.i64.wrap ((j1 : Int) + 1) = j2 := by rw [IntKind.wrap_i64]; omega
      rw [hj1I] at hp1 h1I
      have hwm1 : IntKind.i64.wrap (2 * (i : Int) + 1) = j1 := by rw [IntKind.wrap_i64]; omega
      rw [hj1] at hc1
      have HJ := Aside0.mk (And.intro hj1 hj2)
      clear hj1I
      by_cases h2 : j2 < n
      · have h2I : (j2 : Int) < n := by omega
        have hc2 : j2 < l.length := by omega
        have hm1 := met_less s _ wr HW.out.cell
        go_wp2_with fail
        have hcj := HW.out.row.cells j2 hc2
        have hcp := HW.out.row.cells j1 hc1
        refine (less_any g l.length c j2 j1 _ _ _ _ _ hc2 hc1 (by have := HI.out; omega) (by obtain ⟨_, _, _, q, _⟩ := HW.out.row.block; exact q) ⟨hcj.1, hcj.2, hcp.1, hcp.2⟩).mono ?_
        rintro e w7 ⟨rfl, hb⟩
        have zz : HH B w7 s g c l := HW.out.ch (Ch.of_below hb) rfl (HW.out.row.below hb)
        have zc : Ch (fun k => k = g) w0 w7 := HC.out.trans (Ch.of_below hb)
        have zz_HW := Aside0.mk (zz); have zz_HC := Aside0.mk (zc); clear HW; clear HC; have HW := zz_HW; have HC := zz_HC; clear zz_HW; clear zz_HC
        clear hcj hcp hb zz zc
        cases hq : ilt (l.getD j2 ez) (l.getD j1 ez)
        · have HCH : Aside0 (chd ilt ez l i n = j1) := ⟨by unfold chd; rw [HJ.out.1, HJ.out.2, hq, if_neg (by simp)]⟩
          clear hq hm1
          have hm4 := met_less s _ w7 HW.out.cell
          go_wp2_with fail
          have hcj := HW.out.row.cells j1 hc1
          have hcp := HW.out.row.cells i hil
          refine (less_any g l.length c j1 i _ _ _ _ _ hc1 hil (by have := HI.out; omega) (by obtain ⟨_, _, _, q, _⟩ := HW.out.row.block; exact q) ⟨hcj.1, hcj.2, hcp.1, hcp.2⟩).mono ?_
          rintro e w9 ⟨rfl, hb⟩
          have zz : HH B w9 s g c l := HW.out.ch (Ch.of_below hb) rfl (HW.out.row.below hb)
          have zc : Ch (fun k => k = g) w0 w9 := HC.out.trans (Ch.of_below hb)
          have zz_HW := Aside0.mk (zz); have zz_HC := Aside0.mk (zc); clear HW; clear HC; have HW := zz_HW; have HC := zz_HC; clear zz_HW; clear zz_HC
          clear hcj hcp hb zz zc
          cases hlz : ilt (l.getD j1 ez) (l.getD i ez)
          · have HE : Aside0 (down ilt ez l i n = l) := ⟨down_stay ilt ez (by have := HJ.out; omega) (by rw [HCH.out]; exact hlz)⟩
            clear hlz hm4
            go_wp2
            go_ret
            rw [← HI.out.2.2, HE.out]
            exact ⟨⟨_, rfl⟩, HW.out, HC.out⟩
          · have HE : Aside0 (down ilt ez l i n = down ilt ez (swp ez l i j1) j1 n) := ⟨by rw [down_go ilt ez (by have := HJ.out; omega) (by rw [HCH.out]; exact hlz), HCH.out]⟩
            clear hlz hm4
            have hm5 := met_swap s _ w9 HW.out.cell
            go_wp2_with fail
            refine (swap_any B g c i j1 l w9 HW.out.row hil hc1 (by have := HI.out; omega)).mono ?_
            rintro e w10 ⟨rfl, hr, hc⟩
            have zz : HH B w10 s g c (swp ez l i j1) := HW.out.ch hc (swp_len ez l i j1) hr
            have zc : Ch (fun k => k = g) w0 w10 := HC.out.trans hc
            have zz_HW := Aside0.mk (zz); have zz_HC := Aside0.mk (zc); clear HW; clear HC; have HW := zz_HW; have HC := zz_HC; clear zz_HW; clear zz_HC
            clear hr hc hm5 zz zc
            go_wp2
            go_roundg (n - j1)
            case measure => have := HJ.out; omega
            case rel => exact ⟨swp ez l i j1, j1, rfl, by go_num, ⟨by rw [swp_len]; exact HI.out.1, by have := HI.out; have := HN.out; omega, by rw [← HE.out]; exact HI.out.2.2⟩, HW, HC⟩
        · have HCH : Aside0 (chd ilt ez l i n = j2) := ⟨by unfold chd; rw [HJ.out.1, HJ.out.2, hq, if_pos ⟨h2, rfl⟩]⟩
          clear hq hm1
          have hm4 := met_less s _ w7 HW.out.cell
          go_wp2_with fail
          have hcj := HW.out.row.cells j2 hc2
          have hcp := HW.out.row.cells i hil
          refine (less_any g l.length c j2 i _ _ _ _ _ hc2 hil (by have := HI.out; omega) (by obtain ⟨_, _, _, q, _⟩ := HW.out.row.block; exact q) ⟨hcj.1, hcj.2, hcp.1, hcp.2⟩).mono ?_
          rintro e w9 ⟨rfl, hb⟩
          have zz : HH B w9 s g c l := HW.out.ch (Ch.of_below hb) rfl (HW.out.row.below hb)
          have zc : Ch (fun k => k = g) w0 w9 := HC.out.trans (Ch.of_below hb)
          have zz_HW := Aside0.mk (zz); have zz_HC := Aside0.mk (zc); clear HW; clear HC; have HW := zz_HW; have HC := zz_HC; clear zz_HW; clear zz_HC
          clear hcj hcp hb zz zc
          cases hlz : ilt (l.getD j2 ez) (l.getD i ez)
          · have HE : Aside0 (down ilt ez l i n = l) := ⟨down_stay ilt ez (by have := HJ.out; omega) (by rw [HCH.out]; exact hlz)⟩
            clear hlz hm4
            go_wp2
            go_ret
            rw [← HI.out.2.2, HE.out]
            exact ⟨⟨_, rfl⟩, HW.out, HC.out⟩
          · have HE : Aside0 (down ilt ez l i n = down ilt ez (swp ez l i j2) j2 n) := ⟨by rw [down_go ilt ez (by have := HJ.out; omega) (by rw [HCH.out]; exact hlz), HCH.out]⟩
            clear hlz hm4
            have hm5 := met_swap s _ w9 HW.out.cell
            go_wp2_with fail
            refine (swap_any B g c i j2 l w9 HW.out.row hil hc2 (by have := HI.out; omega)).mono ?_
            rintro e w10 ⟨rfl, hr, hc⟩
            have zz : HH B w10 s g c (swp ez l i j2) := HW.out.ch hc (swp_len ez l i j2) hr
            have zc : Ch (fun k => k = g) w0 w10 := HC.out.trans hc
            have zz_HW := Aside0.mk (zz); have zz_HC := Aside0.mk (zc); clear HW; clear HC; have HW := zz_HW; have HC := zz_HC; clear zz_HW; clear zz_HC
            clear hr hc hm5 zz zc
            go_wp2
            go_roundg (n - j2)
            case measure => have := HJ.out; omega
            case rel => exact ⟨swp ez l i j2, j2, rfl, by go_num, ⟨by rw [swp_len]; exact HI.out.1, by have := HI.out; have := HN.out; omega, by rw [← HE.out]; exact HI.out.2.2⟩, HW, HC⟩
      · have h2I : ¬ (j2 : Int) < n := by omega
        have HCH : Aside0 (chd ilt ez l i n = j1) := ⟨by unfold chd; rw [HJ.out.2, HJ.out.1, if_neg (fun h => h2 h.1)]⟩
        have hm4 := met_less s _ wr HW.out.cell
        go_wp2_with fail
        have hcj := HW.out.row.cells j1 hc1
        have hcp := HW.out.row.cells i hil
        refine (less_any g l.length c j1 i _ _ _ _ _ hc1 hil (by have := HI.out; omega) (by obtain ⟨_, _, _, q, _⟩ := HW.out.row.block; exact q) ⟨hcj.1, hcj.2, hcp.1, hcp.2⟩).mono ?_
        rintro e w9 ⟨rfl, hb⟩
        have zz : HH B w9 s g c l := HW.out.ch (Ch.of_below hb) rfl (HW.out.row.below hb)
        have zc : Ch (fun k => k = g) w0 w9 := HC.out.trans (Ch.of_below hb)
        have zz_HW := Aside0.mk (zz); have zz_HC := Aside0.mk (zc); clear HW; clear HC; have HW := zz_HW; have HC := zz_HC; clear zz_HW; clear zz_HC
        clear hcj hcp hb zz zc
        cases hlz : ilt (l.getD j1 ez) (l.getD i ez)
        · have HE : Aside0 (down ilt ez l i n = l) := ⟨down_stay ilt ez (by have := HJ.out; omega) (by rw [HCH.out]; exact hlz)⟩
          clear hlz hm4
          go_wp2
          go_ret
          rw [← HI.out.2.2, HE.out]
          exact ⟨⟨_, rfl⟩, HW.out, HC.out⟩
        · have HE : Aside0 (down ilt ez l i n = down ilt ez (swp ez l i j1) j1 n) := ⟨by rw [down_go ilt ez (by have := HJ.out; omega) (by rw [HCH.out]; exact hlz), HCH.out]⟩
          clear hlz hm4
          have hm5 := met_swap s _ w9 HW.out.cell
          go_wp2_with fail
          refine (swap_any B g c i j1 l w9 HW.out.row hil hc1 (by have := HI.out; omega)).mono ?_
          rintro e w10 ⟨rfl, hr, hc⟩
          have zz : HH B w10 s g c (swp ez l i j1) := HW.out.ch hc (swp_len ez l i j1) hr
          have zc : Ch (fun k => k = g) w0 w10 := HC.out.trans hc
          have zz_HW := Aside0.mk (zz); have zz_HC := Aside0.mk (zc); clear HW; clear HC; have HW := zz_HW; have HC := zz_HC; clear zz_HW; clear zz_HC
          clear hr hc hm5 zz zc
          go_wp2
          go_roundg (n - j1)
          case measure => have := HJ.out; omega
          case rel => exact ⟨swp ez l i j1, j1, rfl, by go_num, ⟨by rw [swp_len]; exact HI.out.1, by have := HI.out; have := HN.out; omega, by rw [← HE.out]; exact HI.out.2.2⟩, HW, HC⟩
    · have h1I : ¬ (2 * (i : Int) + 1) < n := by omega
      have hwm1 : IntKind.i64.wrap (2 * (i : Int) + 1) = 2 * i + 1 := by rw [IntKind.wrap_i64]; omega
      have HE : Aside0 (down ilt ez l i n = l) := ⟨down_end ilt ez h1⟩
      go_wp2
      go_ret
      rw [← HI.out.2.2, HE.out]
      exact ⟨⟨_, rfl⟩, HW.out, HC.out⟩
end Go.Proofs.Ytfijbhacobjjgah
