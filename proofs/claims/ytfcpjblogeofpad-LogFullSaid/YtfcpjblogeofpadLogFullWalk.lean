/- The walk of LogFull: it answers true. -/
import Derived.Test.YtfcpjblogeofpadLogAwake
namespace Go.Proofs.Ytfcpjblogeofpad
open Go.RowKit Go.Proofs.YtfcpjblogeofpadW.PrintWords Go.Proofs.YtfcpjblogeofpadW.PrintLast Go.Proofs.YtfcpjblogeofpadW.PrintMore Go.Proofs.Ytfcpjblogeofpad.Fr
set_option linter.unusedVariables false
set_option linter.unusedSimpArgs false

attribute [local go_sem] max2_int min2_int max_two min_two
theorem append_full_in {B : Nat} {a : World} (g : Nat) (v : Value) (l : List ByteArray) (base : Nat) (bytes : Int) (s : ByteArray) (w : World) (h : LogIn B a w g v l base bytes) (hs : s.size ≤ 512) (hl : 400 ≤ l.length) :
    Calls Try.prog 8 #[.pointer (some ⟨g, 0, none⟩), .string s] w fun e w' => e = .returned (.tuple #[.int .i64 0, .int .i64 2]) ∧ w = w' := append_full B g v l base bytes s w h.log hs hl
theorem old_in {B : Nat} {a : World} (g : Nat) (v : Value) (l : List ByteArray) (base : Nat) (bytes : Int) (w : World) (h : LogIn B a w g v l base bytes) (hl : l.length ≤ 100000) (hb : base = l.length) :
    Calls Try.prog 12 #[.pointer (some ⟨g, 0, none⟩)] w fun e w' => ∃ A c, e = .returned (.slice A l.length c) ∧ LogIn B a w' g v l base bytes :=
  (old_any B g v l base bytes w h.log hl (by omega)).mono fun e w' ⟨v1, he, ho, hbel⟩ => by
    obtain ⟨A, c, rfl, _, _⟩ := own_rds ho
    refine ⟨A, c, ?_, h.from hbel⟩
    rw [he, hb, List.take_length]
set_option maxRecDepth 100000 in
set_option maxHeartbeats 4000000 in
theorem full_walk (c : Int) (hc : (Lit.int .u8 c).wf = true) (s : ByteArray) (hs : s.size ≤ 140737488351232) (w : World) :
    Calls Try.prog 3 #[.int .u8 c, .string s] w fun e w' => e = .returned (.bool true) ∧ Below w.heap.size w w' := by
  have HB := Aside0.mk (Below.refl w.heap.size w)
  by_cases hbig : 20 < s.size
  · have hbi : (20 : Int) < (s.size : Int) := by omega
    go_enter Try.func3, Try.ntmps3
    go_wp2_with ((go_at_call 6; refine (awake_any _).mono ?_; rintro e w1 ⟨rfl, hb⟩; have zz_HB := Aside0.mk (below_step HB.out hb); clear HB; have HB := zz_HB; clear zz_HB; clear hb))
    go_ret
    exact ⟨rfl, HB.out⟩
  · obtain ⟨hc0, hc1⟩ : 0 ≤ c ∧ c ≤ 255 := by simp [Lit.wf] at hc; exact hc
    obtain ⟨K, hK, hK0, hK1⟩ : ∃ K : Nat, 396 + c % 11 = (K : Int) ∧ 396 ≤ K ∧ K ≤ 406 := ⟨(396 + c % 11).toNat, by omega, by omega, by omega⟩
    clear hc
    have hs20 : s.size ≤ 20 := by omega
    go_enter Try.func3, Try.ntmps3
    go_wp2_with (first
      | (go_at_call 6; refine (awake_any _).mono ?_; rintro e w1 ⟨rfl, hb⟩; have zz_HB := Aside0.mk (below_step HB.out hb); clear HB; have HB := zz_HB; clear zz_HB; clear hb)
      | (go_at_call 7; refine (new_in _ HB.out HB.out.size).mono ?_; rintro e w1 ⟨g, rfl, hl, _, _⟩; have HL := Aside0.mk hl; clear hl HB))
    have HKK := Aside0.mk hK
    clear hK
    go_loopg [21] K (fun d x wr => ∃ (k : Nat) (v : Value) (l : List ByteArray) (bytes : Int), Aside0 (k + d = K) ∧ x = .int .i64 k ∧ Aside0 (l.length = min k 400 ∧ bytes = (s.size : Int) * (l.length : Int)) ∧ Aside0 (LogIn w.heap.size w wr g v l 0 bytes))
    case atStart => exact ⟨0, _, _, _, ⟨by omega⟩, rfl, ⟨by simp, by simp⟩, HL⟩
    case round =>
      clear HL
      obtain ⟨k, v, l, bytes, HK, rfl, HM, HL⟩ := hrel
      have hle : l.length ≤ 400 := by have := HM.out.1; omega
      have hbt : 0 ≤ bytes ∧ bytes ≤ 8000 := by
        rw [HM.out.2]
        have h1 : (s.size : Int) * (l.length : Int) ≤ 20 * (l.length : Int) := Int.mul_le_mul_of_nonneg_right (by omega) (by omega)
        exact ⟨Int.mul_nonneg (by omega) (by omega), by omega⟩
      by_cases hlt : k < K
      · by_cases h4 : k < 400
        · have HLL : Aside0 (l.length = k) := ⟨by have := HM.out.1; omega⟩
          have hki : (k : Int) < 400 := by omega
          go_wp2_with fail
          refine (append_in g v l 0 bytes s _ HL.out (by omega) (by have := HLL.out; omega) hbt.1 (by have := hbt.2; omega)).mono ?_
          rintro e w4 ⟨v1, rfl, hl⟩
          rw [HLL.out]
          have HM1 : Aside0 ((l ++ [s]).length = min (k + 1) 400 ∧ bytes + s.size = (s.size : Int) * ((l ++ [s]).length : Int)) := ⟨by
            have h1 := HLL.out
            rw [List.length_append, List.length_singleton, h1]
            refine ⟨by omega, ?_⟩
            rw [HM.out.2, h1, Int.natCast_succ, Int.mul_add, Int.mul_one]⟩
          have zz_HL := Aside0.mk (hl); clear HL; have HL := zz_HL; clear zz_HL
          clear hl
          go_wp2
          go_roundg (gk - 1)
          case measure => have := HK.out; omega
          case rel => exact ⟨k + 1, _, _, _, ⟨by have := HK.out; omega⟩, by go_num, HM1, HL⟩
        · have HLL : Aside0 (l.length = 400) := ⟨by have := HM.out.1; omega⟩
          have hki : (400 : Int) ≤ (k : Int) := by omega
          go_wp2_with fail
          refine (append_full_in g v l 0 bytes s _ HL.out (by omega) (by have := HLL.out; omega)).mono ?_
          rintro e w4 ⟨rfl, rfl⟩
          go_wp2
          go_roundg (gk - 1)
          case measure => have := HK.out; omega
          case rel => exact ⟨k + 1, _, _, _, ⟨by have := HK.out; omega⟩, by go_num, ⟨by have := HM.out.1; omega, HM.out.2⟩, HL⟩
      · obtain rfl : K = k := by have := HK.out; omega
        clear hlt
        obtain ⟨m, hm⟩ : ∃ m, l.length = m := ⟨_, rfl⟩
        have hmn : (if (400 : Int) < (K : Int) then 400 else (K : Int)) = (m : Int) := by have := HM.out.1; split <;> omega
        have HMM := Aside0.mk hm
        have HBY : Aside0 (bytes = (s.size : Int) * (m : Int)) := ⟨by rw [HM.out.2, hm]⟩
        have hm0 : 0 < m := by have := HM.out.1; omega
        have hm4 : m ≤ 400 := by omega
        clear hm hle
        have hb0 := hbt.1
        have hb1 := hbt.2
        clear hbt
        obtain ⟨p, hp⟩ : ∃ p, (s.size : Int) * (m : Int) = p := ⟨_, rfl⟩
        rw [hp] at HBY
        obtain rfl := HBY.out
        go_wp2_with fail
        refine (len_any _ g _ _ _ _ _ HL.out.log).mono ?_
        rintro e w4 ⟨rfl, rfl⟩
        rw [HMM.out]
        go_wp2_with fail
        refine (bytes_any _ g _ _ _ _ _ HL.out.log).mono ?_
        rintro e w4 ⟨rfl, rfl⟩
        go_wp2_with fail
        refine (len_any _ g _ _ _ _ _ HL.out.log).mono ?_
        rintro e w4 ⟨rfl, rfl⟩
        rw [HMM.out]
        go_wp2_with fail
        refine (trunc_in g v l 0 bytes m _ HL.out hm0 (by have := HMM.out; omega)).mono ?_
        rintro e w5 ⟨rfl, hl⟩
        have zz_HL := Aside0.mk (hl); clear HL; have HL := zz_HL; clear zz_HL
        clear hl
        go_wp2_with fail
        refine (len_any _ g _ _ _ _ _ HL.out.log).mono ?_
        rintro e w6 ⟨rfl, rfl⟩
        rw [HMM.out]
        go_wp2_with fail
        refine (trunc_no _ g v l m bytes m _ HL.out.log (.inl (by omega))).mono ?_
        rintro e w6 ⟨rfl, rfl⟩
        go_wp2_with fail
        refine (old_in g v l m bytes _ HL.out (by have := HMM.out; omega) HMM.out.symm).mono ?_
        rintro e w7 ⟨A, c7, rfl, hl⟩
        have zz_HL := Aside0.mk (hl); clear HL; have HL := zz_HL; clear zz_HL
        rw [HMM.out]
        clear hl
        go_wp2_with fail
        refine (len_any _ g _ _ _ _ _ HL.out.log).mono ?_
        rintro e w8 ⟨rfl, rfl⟩
        rw [HMM.out]
        go_wp2
        go_ret
        exact ⟨rfl, HL.out.below⟩
end Go.Proofs.Ytfcpjblogeofpad
