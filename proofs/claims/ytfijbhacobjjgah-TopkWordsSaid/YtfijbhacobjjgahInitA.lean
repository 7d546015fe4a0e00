/- The heap's Init. -/
import Derived.Test.YtfijbhacobjjgahPopA
namespace Go.Proofs.Ytfijbhacobjjgah
open Go.RowKit Go.Proofs.YtfijbhacobjjgahW.PrintWords Go.Proofs.YtfijbhacobjjgahW.PrintLast Go.Proofs.YtfijbhacobjjgahW.PrintMore Go.Proofs.Ytfijbhacobjjgah.Fr
set_option linter.unusedVariables false
set_option linter.unusedSimpArgs false
attribute [local go_sem] max2_int min2_int max_two min_two

open Pl Hp
set_option maxHeartbeats 1000000 in
theorem init_any (B s g c : Nat) (n : Nat) (w0 : World) (l0 : List E) (h : HH B w0 s g c l0) (hn : l0.length = n) (hl : n ≤ 100000) :
    Calls Try.prog 22 #[PI s] w0 fun e w' => e = .returned (.tuple #[]) ∧ HH B w' s g c (ini ilt ez l0 (n / 2)) ∧ Ch (fun k => k = g) w0 w' := by
  have H := Aside0.mk h
  have HN := Aside0.mk hn
  have hm1 := met_len s _ w0 h.cell
  rw [hn] at hm1
  obtain ⟨p, hp⟩ : ∃ p, n / 2 = p := ⟨_, rfl⟩
  have hdiv : ((n : Int)).tdiv 2 = (p : Int) := by rw [Int.tdiv_eq_ediv_of_nonneg (by omega)]; omega
  have hpn : p ≤ n := by omega
  have hwp : IntKind.i64.wrap ((p : Int) - 1) = (p : Int) - 1 := by rw [IntKind.wrap_i64]; omega
  have HP := Aside0.mk hp
  rw [hp]
  clear h hn hp
  go_enter Try.func22, Try.ntmps22
  go_wp2_with fail
  refine (hlen_any (some ⟨g, 0, none⟩) n c w0).mono ?_
  rintro e w1 ⟨rfl, rfl⟩
  clear hm1
  go_wp2_with fail
  go_loopg [3] p (fun d x3 wr => ∃ (l : List E) (z : Int), x3 = .int .i64 z ∧ Aside0 (z = (d : Int) - 1 ∧ d ≤ n ∧ l.length = n ∧ ini ilt ez l d = ini ilt ez l0 p) ∧ Aside0 (HH B wr s g c l) ∧ Aside0 (Ch (fun k => k = g) w0 wr))
  case atStart => exact ⟨l0, _, rfl, ⟨rfl, hpn, HN.out, rfl⟩, H, ⟨Ch.refl _ _⟩⟩
  case round =>
    obtain ⟨l, z, rfl, HI, HW, HC⟩ := hrel
    by_cases h0 : gk = 0
    · have hz : ¬ 0 ≤ z := by have := HI.out; omega
      go_wp2
      go_end0
      rw [← HI.out.2.2.2, h0]
      exact ⟨rfl, HW.out, HC.out⟩
    · obtain ⟨k, hk⟩ : ∃ k, gk = k + 1 := ⟨gk - 1, by omega⟩
      have hz : z = (k : Int) := by have := HI.out; omega
      subst hz
      have HK := Aside0.mk hk
      have hk1 : k ≤ 100000 := by have := HI.out; omega
      have hwk : IntKind.i64.wrap ((k : Int) - 1) = (k : Int) - 1 := by rw [IntKind.wrap_i64]; omega
      clear h0 hk
      go_wp2_with fail
      refine (down_any B s g c n wr l k HW.out (by have := HI.out; omega) (by have := HI.out; omega) hk1).mono ?_
      rintro e w2 ⟨⟨r, rfl⟩, hw2, hc2⟩
      have HW2 := Aside0.mk hw2
      have HC2 : Aside0 (Ch (fun k => k = g) w0 w2) := ⟨HC.out.trans hc2⟩
      have HD : Aside0 ((down ilt ez l k n).length = n ∧ ini ilt ez (down ilt ez l k n) k = ini ilt ez l0 p) := ⟨by
        have h1 := (down_perm ilt ez n (n - k) k l rfl (by have := HI.out; omega)).2.1
        have h2 := HI.out.2.2.2
        rw [HK.out, ini, HI.out.2.2.1] at h2
        exact ⟨h1.trans HI.out.2.2.1, h2⟩⟩
      clear hw2 hc2 HW HC
      go_wp2
      go_roundg k
      case measure => have := HK.out; omega
      case rel => exact ⟨down ilt ez l k n, _, rfl, ⟨rfl, by have := HK.out; have := HI.out; omega, HD.out.1, HD.out.2⟩, HW2, HC2⟩
theorem init_nil (s : Nat) (w0 : World) (h : w0.cell? ⟨s, 0, none⟩ = some (.slice none 0 0)) :
    Calls Try.prog 22 #[PI s] w0 fun e w' => e = .returned (.tuple #[]) ∧ w0 = w' := by
  have hm1 := met_len s _ w0 h
  go_enter Try.func22, Try.ntmps22
  go_wp2_with fail
  refine (hlen_any none 0 0 w0).mono ?_
  rintro e w1 ⟨rfl, rfl⟩
  clear hm1 h
  go_wp2_with fail
  go_loopg [3] 0 (fun d x3 wr => x3 = .int .i64 (-1) ∧ wr = w0)
  case atStart => exact ⟨rfl, rfl⟩
  case round =>
    obtain ⟨rfl, rfl⟩ := hrel
    go_wp2
    go_end0
    exact ⟨rfl, rfl⟩
end Go.Proofs.Ytfijbhacobjjgah
