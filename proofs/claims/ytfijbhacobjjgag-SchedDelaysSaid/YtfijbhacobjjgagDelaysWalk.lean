/- SchedDelays: the walk. -/
import Derived.Test.YtfijbhacobjjgagFullA
import Derived.Test.YtfijbhacobjjgagOpen
import Derived.Deep.CutBlock
namespace Go.Proofs.Ytfijbhacobjjgag
open Go.RowKit Go.Proofs.YtfijbhacobjjgagW.PrintWords Go.Proofs.YtfijbhacobjjgagW.PrintLast Go.Proofs.YtfijbhacobjjgagW.PrintMore Go.Proofs.Ytfijbhacobjjgag.Fr
set_option linter.unusedVariables false
set_option linter.unusedSimpArgs false
attribute [local go_sem] max2_int min2_int max_two min_two

open Pl Hp
theorem delay_le (b n : Int) : min (brI b 1 1000 * 2 ^ (brI n 0 20).toNat) 100000 ≤ min (brI b 1 1000 * 2 ^ (brI (n + 1) 0 20).toNat) 100000 := by
  have hd : 1 ≤ brI b 1 1000 := by unfold brI; omega
  have h : (brI (n + 1) 0 20).toNat = (brI n 0 20).toNat ∨ (brI (n + 1) 0 20).toNat = (brI n 0 20).toNat + 1 := by unfold brI; omega
  rcases h with h | h
  · rw [h]; exact Int.le_refl _
  · rw [h]; exact dl_mono _ hd _
theorem delay_pos (b n : Int) : 1 ≤ min (brI b 1 1000 * 2 ^ (brI n 0 20).toNat) 100000 := by
  have hd : 1 ≤ brI b 1 1000 := by unfold brI; omega
  have hp : (0 : Int) < 2 ^ (brI n 0 20).toNat := Int.pow_pos (by decide)
  have hm : (1 : Int) * 1 ≤ brI b 1 1000 * 2 ^ (brI n 0 20).toNat := Int.mul_le_mul hd (by omega) (by decide) (by omega)
  omega
theorem psh_len (l : List E) (x : E) : (psh elt ez l x).length = l.length + 1 := by
  unfold psh
  have hz := (up_perm elt ez l.length (l ++ [x]) (by simp)).2
  rw [hz]; simp
set_option maxRecDepth 100000 in
set_option maxHeartbeats 4000000 in
theorem delays_walk (b : Int) (hb : (Lit.int .i64 b).wf = true) (n : Int) (hn : (Lit.int .i64 n).wf = true) (m : Int) (hm : (Lit.int .u8 m).wf = true) (w0 : World) :
    Calls Try.prog 5 #[.int .i64 b, .int .i64 n, .int .u8 m] w0 fun e w' => e = .returned (.bool true) ∧ Below w0.heap.size w0 w' := by
  obtain ⟨hn0, hn1⟩ := wf_i64 hn
  have hm2 : 0 ≤ m ∧ m < 256 := by
    simp [Lit.wf, IntKind.min, IntKind.max, IntKind.signed, IntKind.bits] at hm
    omega
  obtain ⟨P, hP⟩ : ∃ P, min (brI b 1 1000 * 2 ^ (brI n 0 20).toNat) 100000 = P := ⟨_, rfl⟩
  obtain ⟨P2, hP2⟩ : ∃ P, min (brI b 1 1000 * 2 ^ (brI (n + 1) 0 20).toNat) 100000 = P := ⟨_, rfl⟩
  have hp1 : ¬ P < 1 := by have := delay_pos b n; omega
  have hp2 : ¬ P2 < P := by have := delay_le b n; omega
  have HP := Aside0.mk (And.intro hP (And.intro ((delays b n).trans hP) hP2))
  obtain ⟨q, hq, hq2⟩ : ∃ q : Nat, m.tmod 21 = q ∧ q ≤ 20 := ⟨(m.tmod 21).toNat, by rw [Int.tmod_eq_emod_of_nonneg hm2.1]; omega, by rw [Int.tmod_eq_emod_of_nonneg hm2.1]; omega⟩
  have HQ := Aside0.mk hq
  have HB := Aside0.mk (Below.refl w0.heap.size w0)
  clear hb hn hP hP2 hm hm2 hq
  go_enter Try.func5, Try.ntmps5
  go_wp2_with ((go_at_call 6; refine (awake_any _).mono ?_; rintro e w1 ⟨rfl, hb⟩; have zz_HB := Aside0.mk (below_step HB.out hb); clear HB; have HB := zz_HB; clear zz_HB; clear hb))
  refine (delay_any b n _).mono ?_
  rintro e w2 ⟨rfl, rfl⟩
  rw [HP.out.1]
  go_upto_region 4 with fail
  go_cut [41] from 21 to 41 (fun x41 Wx => x41 = .bool false ∧ w1 = Wx)
  case first =>
    go_wp2_with fail
    refine (rdelay_any b n _).mono ?_
    rintro e w2 ⟨rfl, rfl⟩
    rw [HP.out.2.1]
    have hqP : (P == P) = true := by simp
    by_cases hnn : n < 4611686018427387904
    · have hwn : IntKind.i64.wrap (n + 1) = n + 1 := by rw [IntKind.wrap_i64]; omega
      go_wp2_with fail
      refine (delay_any b (n + 1) _).mono ?_
      rintro e w2 ⟨rfl, rfl⟩
      rw [HP.out.2.2]
      go_wp2_with fail
      go_meet
      case rel => exact ⟨congrArg Value.bool (by simp; omega), rfl⟩
    · go_wp2_with fail
      go_meet
      case rel => exact ⟨congrArg Value.bool (decide_eq_false (by omega)), rfl⟩
  case rest =>
  obtain ⟨rfl, rfl⟩ := hcut
  go_wp2_with fail
  refine (new_any w1).mono ?_
  rintro e w2 ⟨s, rfl, hs, hb⟩
  have HS : Aside0 (SC w0.heap.size w2 s (.slice none 0 0) 0 0 [] ∧ Below w0.heap.size w0 w2) := ⟨⟨⟨hs.box, own_less hs.row HB.out.size, hs.ne, Nat.le_trans HB.out.size hs.lo⟩, below_step HB.out hb⟩⟩
  clear hs hb HB
  obtain ⟨K, hK, hK1, hK2⟩ : ∃ K : Nat, wrap64 (990 + wrap64 (m.tmod 21)) = K ∧ 990 ≤ K ∧ K ≤ 1010 := ⟨990 + q, by rw [HQ.out]; unfold wrap64; omega, by omega, by omega⟩
  clear HQ hq2
  go_wp2_with fail
  rw [hK]
  clear hK
  go_loopg [48] K (fun d x48 wr => ∃ (k o : Nat) (v : Value) (H : List E), Aside0 (k + d = K) ∧ x48 = .int .i64 k ∧ Aside0 (H.length = min k 1000 ∧ o ≤ k) ∧ Aside0 (SC w0.heap.size wr s v 0 o H ∧ Below w0.heap.size w0 wr))
  case atStart => exact ⟨0, 0, _, [], ⟨by omega⟩, rfl, ⟨by simp⟩, HS⟩
  case round =>
    clear HS
    obtain ⟨k, o, v, H, HK, rfl, HL, HS⟩ := hrel
    by_cases hlt : k < K
    · by_cases hfull : k < 1000
      · have hf2 : (k : Int) < 1000 := by omega
        go_wp2_with fail
        refine (put_any 0 ⟨0, 0, 0, false, ⟨#[]⟩⟩ wr HS.out.1 HS.out.2.size (by have := HL.out; omega) (by decide) (by decide) (by omega) (by have := HL.out; omega)).mono ?_
        rintro e w3 ⟨v3, rfl, hs3, hc3, hv3⟩
        have HS3 : Aside0 (SC w0.heap.size w3 s v3 0 ((o + 1 : Nat) : Int) (psh elt ez H ⟨putT 0 0, (o : Int) + 1, ⟨0, 0, 0, false, ⟨#[]⟩⟩⟩) ∧ Below w0.heap.size w0 w3) := ⟨⟨hs3, Ch.onto HS.out.2 hc3 HS.out.2.size (fun i e => by rcases e with e | e; exact e ▸ HS.out.1.lo; exact own_base HS.out.1.row i e.symm)⟩⟩
        clear hs3 hc3 hv3 HS
        go_wp2
        go_roundg (gk - 1)
        case measure => have := HK.out; omega
        case rel => exact ⟨k + 1, o + 1, v3, _, ⟨by have := HK.out; omega⟩, by go_num, ⟨by rw [psh_len]; have := HL.out; omega⟩, HS3⟩
      · have hf2 : ¬ (k : Int) < 1000 := by omega
        clear hfull
        go_wp2_with fail
        refine (put_full 0 ⟨0, 0, 0, false, ⟨#[]⟩⟩ wr HS.out.1 (by have := HL.out; omega)).mono ?_
        rintro e w3 ⟨rfl, hb3⟩
        have HS3 : Aside0 (SC w0.heap.size w3 s v 0 o H ∧ Below w0.heap.size w0 w3) := ⟨⟨HS.out.1.below hb3, below_step HS.out.2 hb3⟩⟩
        clear hb3 HS
        go_wp2
        go_roundg (gk - 1)
        case measure => have := HK.out; omega
        case rel => exact ⟨k + 1, o, v, H, ⟨by have := HK.out; omega⟩, by go_num, ⟨by have := HL.out; omega⟩, HS3⟩
    · have hkK : k = K := by have := HK.out; omega
      subst hkK
      clear HK hlt
      have hll : ¬ (k : Int) < k := by omega
      go_wp2_with fail
      refine (next_nobody wr).mono ?_
      rintro e w3 ⟨rfl, hb3⟩
      have HS3 : Aside0 (SC w0.heap.size w3 s v 0 o H ∧ Below w0.heap.size w0 w3) := ⟨⟨HS.out.1.below hb3, below_step HS.out.2 hb3⟩⟩
      clear hb3 HS
      go_upto_region 16 with fail
      have hal : Below w3.heap.size w3 (w3.alloc (.cells #[.int .i64 0, .int .i64 0, .int .i64 0, .bool false, .string ⟨#[]⟩] 28)) := below_alloc (Below.refl _ _) _
      have HS4 : Aside0 (SC w0.heap.size (w3.alloc (.cells #[.int .i64 0, .int .i64 0, .int .i64 0, .bool false, .string ⟨#[]⟩] 28)) s v 0 o H ∧ Below w0.heap.size w0 (w3.alloc (.cells #[.int .i64 0, .int .i64 0, .int .i64 0, .bool false, .string ⟨#[]⟩] 28))) := ⟨⟨HS3.out.1.below hal, below_step HS3.out.2 hal⟩⟩
      clear hal HS3
      generalize w3.alloc (.cells #[.int .i64 0, .int .i64 0, .int .i64 0, .bool false, .string ⟨#[]⟩] 28) = W at HS4 ⊢
      go_wp2_with fail
      refine (peek_nobody W).mono ?_
      rintro e w4 ⟨rfl, hb4⟩
      have HS5 : Aside0 (SC w0.heap.size w4 s v 0 o H ∧ Below w0.heap.size w0 w4) := ⟨⟨HS4.out.1.below hb4, below_step HS4.out.2 hb4⟩⟩
      clear hb4 HS4
      obtain ⟨L, hL, hL2⟩ : ∃ L, H.length = L ∧ (L : Int) = min k 1000 := ⟨_, rfl, by have := HL.out; omega⟩
      have HLL := Aside0.mk hL
      clear hL
      have hk1000 : (1000 : Int) < k ∧ (L : Int) = 1000 ∨ ¬ (1000 : Int) < k ∧ (L : Int) = k := by omega
      clear hL2
      go_wp2_with fail
      refine (len_any HS5.out.1).mono ?_
      rintro e w5 ⟨rfl, rfl⟩
      rw [HLL.out]
      have HB := Aside0.mk HS5.out.2
      clear HS5 HLL HL HP
      rcases hk1000 with ⟨h1, h2⟩ | ⟨h1, h2⟩
      all_goals
        rw [h2]
        clear h2
        go_wp2_with (first | ((go_at_call 8; refine (put_none n ⟨0, 0, 0, false, ⟨#[]⟩⟩ _).mono ?_; rintro e wq ⟨rfl, hb⟩; have zz_HB := Aside0.mk (below_step HB.out hb); clear HB; have HB := zz_HB; clear zz_HB; clear hb)) | ((go_at_call 10; refine (now_none _).mono ?_; rintro e wq ⟨rfl, hb⟩; have zz_HB := Aside0.mk (below_step HB.out hb); clear HB; have HB := zz_HB; clear zz_HB; clear hb)) | ((go_at_call 11; refine (len_none _).mono ?_; rintro e wq ⟨rfl, hb⟩; have zz_HB := Aside0.mk (below_step HB.out hb); clear HB; have HB := zz_HB; clear zz_HB; clear hb)) | ((go_at_call 15; refine (until_none n _).mono ?_; rintro e wq ⟨rfl, hb⟩; have zz_HB := Aside0.mk (below_step HB.out hb); clear HB; have HB := zz_HB; clear zz_HB; clear hb)) | ((go_at_call 17; refine (drop_none n _).mono ?_; rintro e wq ⟨rfl, hb⟩; have zz_HB := Aside0.mk (below_step HB.out hb); clear HB; have HB := zz_HB; clear zz_HB; clear hb)))
        go_ret
        exact ⟨rfl, HB.out⟩
end Go.Proofs.Ytfijbhacobjjgag
