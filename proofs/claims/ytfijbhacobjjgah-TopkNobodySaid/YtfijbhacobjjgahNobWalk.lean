/- TopkNobody: the walk. -/
import Derived.Test.YtfijbhacobjjgahNobLaw
import Derived.Test.YtfijbhacobjjgahAwakeA
import Derived.Test.YtfijbhacobjjgahOpen
namespace Go.Proofs.Ytfijbhacobjjgah
open Go.RowKit Go.Proofs.YtfijbhacobjjgahW.PrintWords Go.Proofs.YtfijbhacobjjgahW.PrintLast Go.Proofs.YtfijbhacobjjgahW.PrintMore Go.Proofs.Ytfijbhacobjjgah.Fr
set_option linter.unusedVariables false
set_option linter.unusedSimpArgs false
attribute [local go_sem] max2_int min2_int max_two min_two

open Pl Hp
set_option maxRecDepth 100000 in
set_option maxHeartbeats 4000000 in
theorem nobody_walk (s : ByteArray) (hs : s.size ≤ 140737488351232) (n : Int) (hn : (Lit.int .i64 n).wf = true) (m : Int) (hm : (Lit.int .u8 m).wf = true) (w0 : World) :
    Calls Try.prog 4 #[.string s, .int .i64 n, .int .u8 m] w0 fun e w' => e = .returned (.bool true) ∧ Below w0.heap.size w0 w' := by
  have hm2 : 0 ≤ m ∧ m < 256 := by
    simp [Lit.wf, IntKind.min, IntKind.max, IntKind.signed, IntKind.bits] at hm
    omega
  obtain ⟨q, hq, hq2⟩ : ∃ q : Nat, m.tmod 20 = q ∧ q < 20 := ⟨(m.tmod 20).toNat, by rw [Int.tmod_eq_emod_of_nonneg hm2.1]; omega, by rw [Int.tmod_eq_emod_of_nonneg hm2.1]; omega⟩
  have hq1 : m % 20 = q := by rw [← hq, Int.tmod_eq_emod_of_nonneg hm2.1]
  have HS := Aside0.mk (And.intro hs hn)
  have HM := Aside0.mk hm2
  have HB := Aside0.mk (Below.refl w0.heap.size w0)
  clear hs hm hn
  go_enter Try.func4, Try.ntmps4
  by_cases hlen : (100 : Int) < s.size
  · have hl2 : 100 < s.size := by omega
    go_wp2_with ((go_at_call 6; refine (awake_any _).mono ?_; rintro e w1 ⟨rfl, hb⟩; have zz_HB := Aside0.mk (below_step HB.out hb); clear HB; have HB := zz_HB; clear zz_HB; clear hb))
    go_ret
    exact ⟨rfl, HB.out⟩
  · have hl2 : ¬ 100 < s.size := by omega
    have HSZ : Aside0 (s.size ≤ 100) := ⟨by omega⟩
    go_wp2_with ((go_at_call 6; refine (awake_any _).mono ?_; rintro e w1 ⟨rfl, hb⟩; have zz_HB := Aside0.mk (below_step HB.out hb); clear HB; have HB := zz_HB; clear zz_HB; clear hb))
    have hwq : IntKind.i64.wrap (1 + (q : Int)) = 1 + q := by rw [IntKind.wrap_i64]; omega
    refine (new_any (1 + q) _).mono ?_
    rintro e w1 ⟨g, md, room, hroom, rfl, ht, hb⟩
    obtain ⟨k, hk⟩ : ∃ k : Nat, q + 1 = k := ⟨_, rfl⟩
    have hkI : 1 + (q : Int) = k := by omega
    have hrk : room = k := by have : brI (1 + q) 1 1000 = 1 + q := (by unfold brI; omega); omega
    subst hrk
    rw [hkI]
    have HT0 : Aside0 (TB w0.heap.size w1 g md room (.map []) []) := ⟨{ ht with lo := Nat.le_trans HB.out.size ht.lo, lom := Nat.le_trans HB.out.size ht.lom }⟩
    have HB1 : Aside0 (Below w0.heap.size w0 w1) := ⟨below_step HB.out hb⟩
    have HK : Aside0 (room ≤ 20 ∧ room = q + 1) := ⟨by omega, hk.symm⟩
    clear ht hb hroom hkI hk hwq hq hq1 hq2 hm2 HM HB
    go_wp2_with fail
    go_loopg [23] room (fun d x23 wr => ∃ (i : Nat) (D : DW), Aside0 (i + d = room) ∧ x23 = .int .i64 i ∧ Aside0 (TB w0.heap.size wr g md room D (ls i)) ∧ Aside0 (Below w0.heap.size w0 wr))
    case atStart => exact ⟨0, .map [], ⟨by omega⟩, rfl, ⟨HT0.out⟩, ⟨HB1.out⟩⟩
    case round =>
      obtain ⟨i, D, HI, rfl, HTI, HBI⟩ := hrel
      by_cases hlt : i < room
      · have hli : (i : Int) < room := by omega
        have hi2 : i < 20 := by have := HK.out.1; omega
        have hwi : IntKind.u8.wrap (i : Int) = i := by rw [IntKind.wrap_u8]; omega
        have HC : Aside0 ((convert 42 9 (.slice (some ⟨wr.heap.size, 0, none⟩) 1 1)).run Try.prog (wr.alloc (.cells #[.int .u8 (i : Nat)] 5)) = .ok (.string (one i)) (wr.alloc (.cells #[.int .u8 (i : Nat)] 5))) := ⟨string_of_reads (xs := [(i : Int)]) Try.underlying42 Try.underlying5 Try.underlying9 ⟨rfl, by decide, fun _ => ⟨⟨wr.heap.size, 0, none⟩, rfl, fun j hj => by
          obtain rfl : j = 0 := by omega
          exact (blk_cell (blk_new wr (.cells #[.int .u8 (i : Nat)] 5)) 0).trans rfl⟩⟩⟩
        have HL := Aside0.mk (ls_add HK.out.1 hlt)
        have HT1 : Aside0 (TB w0.heap.size (wr.alloc (.cells #[.int .u8 (i : Nat)] 5)) g md room D (ls i)) := ⟨HTI.out.below (below_alloc (Below.refl _ _) _)⟩
        have HB2 : Aside0 (Below w0.heap.size w0 (wr.alloc (.cells #[.int .u8 (i : Nat)] 5))) := ⟨below_alloc HBI.out _⟩
        clear HTI HBI
        go_wp2_with fail
        rw [HC.out]
        go_wp2_with fail
        refine (tadd_any (one i) (one_size i) 1 _ HT1.out).mono ?_
        rintro e w2 ⟨D2, rfl, hs2, hc2⟩
        rw [HL.out] at hs2 ⊢
        have HT2 : Aside0 (TB w0.heap.size w2 g md room D2 (ls (i + 1))) := ⟨hs2⟩
        have HB3 : Aside0 (Below w0.heap.size w0 w2) := ⟨Ch.onto HB2.out hc2 HB2.out.size (fun i e => e ▸ HT0.out.lom)⟩
        clear hs2 hc2
        go_wp2
        go_roundg (gk - 1)
        case measure => have := HI.out; omega
        case rel => exact ⟨i + 1, D2, ⟨by have := HI.out; omega⟩, by go_num, HT2, HB3⟩
      · have hir : i = room := by have := HI.out; omega
        subst hir
        have hii : ¬ (i : Int) < i := by omega
        clear hlt
        go_wp2_with fail
        refine (tadd_none s n _).mono ?_
        rintro e w2 ⟨rfl, hb2⟩
        have HB2 := Aside0.mk (below_step HBI.out hb2)
        have HT2 := Aside0.mk (HTI.out.below hb2)
        clear hb2 HBI HTI
        go_wp2_with fail
        refine (tcount_none s _).mono ?_
        rintro e w3 ⟨rfl, hb3⟩
        have HB3 := Aside0.mk (below_step HB2.out hb3)
        have HT3 := Aside0.mk (HT2.out.below hb3)
        clear hb3 HB2 HT2
        go_wp2_with fail
        refine (tlen_none _).mono ?_
        rintro e w4 ⟨rfl, hb4⟩
        have HB4 := Aside0.mk (below_step HB3.out hb4)
        have HT4 := Aside0.mk (HT3.out.below hb4)
        clear hb4 HB3 HT3
        go_wp2_with fail
        refine (ttop_none n _).mono ?_
        rintro e w5 ⟨rfl, hb5⟩
        have HB5 := Aside0.mk (below_step HB4.out hb5)
        have HT5 := Aside0.mk (HT4.out.below hb5)
        clear hb5 HB4 HT4
        go_wp2_with fail
        refine (thalve_none _).mono ?_
        rintro e w6 ⟨rfl, hb6⟩
        have HB6 := Aside0.mk (below_step HB5.out hb6)
        have HT6 := Aside0.mk (HT5.out.below hb6)
        clear hb6 HB5 HT5
        go_wp2_with fail
        refine (tadd_any ⟨#[255, 255]⟩ (by decide) n _ HT6.out).mono ?_
        rintro e w7 ⟨D7, rfl, hs7, hc7⟩
        rw [ls_full] at hs7 ⊢
        have hiq : ls i = ls (q + 1) := by rw [HK.out.2]
        rw [hiq] at hs7
        have HT7 := Aside0.mk hs7
        have HB7 : Aside0 (Below w0.heap.size w0 w7) := ⟨Ch.onto HB6.out hc7 HB6.out.size (fun i e => e ▸ HT0.out.lom)⟩
        clear hs7 hc7 HB6 HT6 hiq
        go_wp2_with fail
        refine (tadd_any ⟨#[0]⟩ (by decide) 5 _ HT7.out).mono ?_
        rintro e w8 ⟨D8, rfl, hs8, hc8⟩
        have hmo : addL i ⟨#[0]⟩ 5 (ls (q + 1)) = (⟨one 0, 6⟩ :: tl q, true) := ls_more
        rw [hmo] at hs8 ⊢
        have HT8 := Aside0.mk hs8
        have HB8 : Aside0 (Below w0.heap.size w0 w8) := ⟨Ch.onto HB7.out hc8 HB7.out.size (fun i e => e ▸ HT0.out.lom)⟩
        clear hs8 hc8 HB7 HT7 hmo
        go_wp2_with fail
        refine (tcount_any HT8.out ⟨#[0]⟩ (by decide)).mono ?_
        rintro e w9 ⟨rfl, rfl⟩
        have hct : cnt ⟨#[0]⟩ (⟨one 0, 6⟩ :: tl q) = 6 := more_cnt q
        rw [hct]
        clear hct
        go_wp2_with fail
        refine (tlen_any HT8.out).mono ?_
        rintro e w9 ⟨rfl, rfl⟩
        have hln : (⟨one 0, 6⟩ :: tl q : List It).length = i := by rw [more_len]; exact HK.out.2.symm
        have HLN := Aside0.mk hln
        rw [hln]
        clear hln
        have hii2 : ((i : Int) == i) = true := by simp
        go_wp2_with fail
        refine (thalve_any _ HT8.out).mono ?_
        rintro e w9 ⟨D9, rfl, hs9, hc9⟩
        rw [more_half] at hs9
        have hgo : (((⟨one 0, 6⟩ :: tl q : List It).length : Nat) : Int) - ((halL (⟨one 0, 6⟩ :: tl q)).length : Nat) = (i : Int) - 1 := by rw [more_half, HLN.out]; rfl
        rw [hgo]
        have HT9 := Aside0.mk hs9
        have HB9 : Aside0 (Below w0.heap.size w0 w9) := ⟨Ch.onto HB8.out hc9 HB8.out.size (fun i e => e ▸ HT0.out.lom)⟩
        clear hs9 hc9 HB8 HT8 hgo
        have hi1 : IntKind.i64.wrap ((i : Int) - 1) = i - 1 := by have := HK.out; rw [IntKind.wrap_i64]; omega
        have hii3 : ((i : Int) - 1 == i - 1) = true := by simp
        go_wp2_with fail
        refine (tlen_any HT9.out).mono ?_
        rintro e w10 ⟨rfl, rfl⟩
        rw [show (([⟨one 0, 3⟩] : List It).length : Int) = 1 from rfl]
        go_wp2
        go_ret
        exact ⟨rfl, HB9.out⟩
end Go.Proofs.Ytfijbhacobjjgah
