/- Delays: the document's; nobody's Put and Next. -/
import Derived.Test.YtfijbhacobjjgagNoneA
import Derived.Laws.ResultCell
namespace Go.Proofs.Ytfijbhacobjjgag
open Go.RowKit Go.Proofs.YtfijbhacobjjgagW.PrintWords Go.Proofs.YtfijbhacobjjgagW.PrintLast Go.Proofs.YtfijbhacobjjgagW.PrintMore Go.Proofs.Ytfijbhacobjjgag.Fr
set_option linter.unusedVariables false
set_option linter.unusedSimpArgs false
attribute [local go_sem] max2_int min2_int max_two min_two

open Pl Hp
theorem put_none (n : Int) (a : Ac) (w : World) : Calls Try.prog 8 #[.pointer none, .int .i64 n, actV a] w fun e w' => e = .returned (.bool false) ∧ Below w.heap.size w w' := by
  have hal : Below w.heap.size w (w.alloc (.cells #[.int .i64 a.k, .int .i64 a.nd, .int .i64 a.n, .bool a.up, .string a.s] 28)) := below_alloc (Below.refl _ _) _
  unfold actV
  go_enter Try.func8, Try.ntmps8
  go_wp2
  go_ret
  exact ⟨rfl, hal⟩
theorem len_nobody (w : World) : Calls Try.prog 11 #[.pointer none] w fun e w' => e = .returned (.int .i64 0) ∧ w = w' := by
  go_enter Try.func11, Try.ntmps11
  go_wp2
  go_ret
  exact ⟨rfl, rfl⟩
theorem next_nobody (w0 : World) : Calls Try.prog 9 #[.pointer none] w0 fun e w' => e = .returned (.tuple #[.agg #[.int .i64 0, .int .i64 0, .int .i64 0, .bool false, .string ⟨#[]⟩], .bool false]) ∧ Below w0.heap.size w0 w' := by
  have hal : Below w0.heap.size w0 (w0.alloc (.cells #[.int .i64 0, .int .i64 0, .int .i64 0, .bool false, .string ⟨#[]⟩] 28)) := below_alloc (Below.refl _ _) _
  go_enter Try.func9, Try.ntmps9
  go_wp2_with fail
  refine (len_nobody _).mono ?_
  rintro e w1 ⟨rfl, rfl⟩
  go_wp2
  refine bodyPost_ret (v := .tuple #[.agg #[.int .i64 0, .int .i64 0, .int .i64 0, .bool false, .string ⟨#[]⟩], .bool false]) ?_ rfl ?_
  · rw [results_cell_tmp rfl]
    go_simp
  · exact ⟨rfl, hal⟩
theorem rdelay_any (b n : Int) (w : World) : Calls Try.prog 21 #[.int .i64 b, .int .i64 n] w fun e w' => e = .returned (.int .i64 (brI (dl (brI b 1 1000) (brI n 0 20).toNat) 1 100000)) ∧ w = w' := by
  obtain ⟨d0, hd0⟩ : ∃ d, brI b 1 1000 = d := ⟨_, rfl⟩
  have hd1 : 1 ≤ d0 ∧ d0 ≤ 1000 := by rw [← hd0]; unfold brI; omega
  obtain ⟨K, hK⟩ : ∃ K, (brI n 0 20).toNat = K := ⟨_, rfl⟩
  have hK2 : ((K : Int) = n ∨ (n < 0 ∧ K = 0) ∨ (20 ≤ n ∧ K = 20)) ∧ K ≤ 20 := by rw [← hK]; unfold brI; omega
  have HK := Aside0.mk hK2
  have HD0 := Aside0.mk hd0
  rw [hd0, hK]
  clear hd0 hK hK2
  go_enter Try.func21, Try.ntmps21
  go_wp2_with fail
  refine (bring_any b 1 1000 (by decide) w).mono ?_
  rintro e w1 ⟨rfl, rfl⟩
  rw [HD0.out]
  go_wp2_with fail
  go_loopg [5, 6] K (fun g x5 x6 wr => ∃ (i : Nat) (d : Int), Aside0 (i + g = K) ∧ x5 = .int .i64 d ∧ x6 = .int .i64 i ∧ Aside0 (dl d g = dl d0 K ∧ 1 ≤ d ∧ d < 200000) ∧ wr = w)
  case atStart => exact ⟨0, d0, ⟨by omega⟩, rfl, rfl, ⟨rfl, hd1.1, by omega⟩, rfl⟩
  case round =>
    obtain ⟨i, d, HI, rfl, rfl, HD, rfl⟩ := hrel
    by_cases hlt : i < K ∧ d < 100000
    · obtain ⟨h1, h2⟩ := hlt
      have h3 : (i : Int) < n := by have := HK.out; omega
      have h4 : (i : Int) < 20 := by have := HK.out; omega
      have hw1 : IntKind.i64.wrap (d * 2) = d * 2 := by have := HD.out; rw [IntKind.wrap_i64]; omega
      go_wp2
      go_roundg (gk - 1)
      case measure => have := HI.out; omega
      case rel => exact ⟨i + 1, d * 2, ⟨by have := HI.out; omega⟩, by first | rfl | go_num, by go_num, ⟨by
        have h := HD.out.1
        obtain ⟨q, hq⟩ : ∃ q, gk = q + 1 := ⟨gk - 1, by have := HI.out; omega⟩
        rw [hq, dl, if_pos h2] at h
        rw [hq, Nat.add_sub_cancel]
        exact h, by have := HD.out; omega, by omega⟩, rfl⟩
    · have hfin : dl d0 K = d := by
        rw [← HD.out.1]
        by_cases h2 : d < 100000
        · have : gk = 0 := by have := HI.out; omega
          rw [this]; rfl
        · exact dl_big h2 gk
      have HF := Aside0.mk hfin
      have hsp : (¬ (i : Int) < n) ∨ ((i : Int) < n ∧ ¬ (i : Int) < 20) ∨ ((i : Int) < n ∧ (i : Int) < 20 ∧ ¬ d < 100000) := by have := HI.out; have := HK.out; omega
      clear hlt hfin
      rcases hsp with h3 | ⟨h3, h4⟩ | ⟨h3, h4, h5⟩ <;>
      · go_wp2_with ((go_at_call 25; refine (bring_any d 1 100000 (by decide) _).mono ?_; rintro e w2 ⟨rfl, rfl⟩; skip))
        go_ret
        rw [HF.out]
        exact ⟨rfl, rfl⟩
end Go.Proofs.Ytfijbhacobjjgag
