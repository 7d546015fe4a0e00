/- ProofVerifies: the walk. -/
import Derived.Test.YtfafekejjnpbcaaProg
import Derived.Test.YtfafekejjnpbcaaVals
import Derived.Test.YtfafekejjnpbcaaWLast
import Derived.Test.YtfafekejjnpbcaaWMore
import Derived.RegionTactic
import Derived.ChangeAlike
import Derived.BigRegion
import Derived.WalkLawsBesides
import Derived.WalkSpells
import Derived.Deep.LoopGhost
import Derived.Deep.QuietTactic
import Derived.BigQuiet
import Derived.OwnWalk
import Derived.Test.YtfafekejjnpbcaaColA
import Derived.Test.YtfafekejjnpbcaaOpen
import Derived.StillTailTactics
namespace Go.Proofs.Ytfafekejjnpbcaa
open Go.RowKit Go.Proofs.YtfafekejjnpbcaaW.PrintWords Go.Proofs.YtfafekejjnpbcaaW.PrintLast Go.Proofs.YtfafekejjnpbcaaW.PrintMore Go.Proofs.Ytfafekejjnpbcaa.Fr
set_option linter.unusedVariables false
set_option linter.unusedSimpArgs false
attribute [local go_sem] max2_int min2_int max_two min_two

open Pl
theorem rdn_of {w : World} {A : Option Addr} {k : Nat} {p : List Int} (h : (Kd.int .u64).C w A k p) : p.length = k ∧ RdN w A p := by
  refine ⟨h.1, fun i hi => ?_⟩
  have hik : i < k := by have := h.1; omega
  obtain ⟨ad, e, hc⟩ := h.2.2 (by omega)
  obtain ⟨cs, hs, hr, hcell⟩ := hc i _ (List.getElem?_eq_getElem hi)
  refine ⟨ad, e, ?_⟩
  obtain rfl : cs = [.int .u64 p[i]] := hr
  have := hcell 0 _ rfl
  rw [show i * (Kd.int IntKind.u64).sz + 0 = i from Nat.mul_one i] at this
  rw [this, List.getD_eq_getElem?_getD, List.getElem?_eq_getElem hi]
  rfl
theorem xor_ne (r : Int) (h0 : 0 ≤ r) (h1 : r < 18446744073709551616) : decide (r = bits .xor .u64 r 1) = false := by
  apply decide_eq_false
  intro e
  obtain ⟨n, rfl⟩ : ∃ n : Nat, r = (n : Int) := ⟨r.toNat, by omega⟩
  have hn : n < 2 ^ 64 := by omega
  have hx : bits .xor .u64 (n : Int) 1 = (((BitVec.ofNat 64 n ^^^ 1#64).toNat : Nat) : Int) := by
    unfold bits
    have hb : (BitVec.ofInt IntKind.u64.bits (n : Int) ^^^ BitVec.ofInt IntKind.u64.bits 1 : BitVec 64) = BitVec.ofNat 64 n ^^^ 1#64 := by
      congr 1
    show IntKind.u64.wrap (((BitVec.ofInt IntKind.u64.bits (n : Int) ^^^ BitVec.ofInt IntKind.u64.bits 1 : BitVec 64).toNat : Nat) : Int) = _
    rw [hb]
    exact w64_id (Int.natCast_nonneg _) (Int.lt_of_lt_of_le (Int.ofNat_lt.2 (BitVec.isLt _)) (by decide))
  rw [hx] at e
  have e2 : n = (BitVec.ofNat 64 n ^^^ 1#64).toNat := by omega
  have e3 : (BitVec.ofNat 64 n).toNat = (BitVec.ofNat 64 n ^^^ 1#64).toNat := by rw [BitVec.toNat_ofNat, Nat.mod_eq_of_lt hn]; exact e2
  have e4 := BitVec.eq_of_toNat_eq e3
  have e5 : BitVec.ofNat 64 n ^^^ (BitVec.ofNat 64 n ^^^ 1#64) = BitVec.ofNat 64 n ^^^ BitVec.ofNat 64 n := by rw [← e4]
  rw [← BitVec.xor_assoc, BitVec.xor_self, BitVec.zero_xor] at e5
  exact absurd e5 (by decide)
set_option maxRecDepth 100000 in
set_option maxHeartbeats 4000000 in
theorem verifies_walk (a b : Int) (wa : (Lit.int .i64 a).wf = true) (wb : (Lit.int .i64 b).wf = true) (s : ByteArray) (hs : s.size ≤ 140737488351232) (A : Option Addr) (k c : Nat) (p : List Int) (hkc : k ≤ c) (hc0 : c ≤ 9223372036854775807) (w : World) (hC : (Kd.int .u64).C w A k p) (hP : ∀ x ∈ p, (Lit.int .u64 x).wf = true) :
    Calls Try.prog 4 #[.agg #[.int .i64 a, .int .i64 b], .string s, .slice A k c] w fun e w' => e = .returned (.bool true) ∧ Below w.heap.size w w' := by
  obtain ⟨ha0, ha1⟩ := bounds_i64 wa
  obtain ⟨hb0, hb1⟩ := bounds_i64 wb
  obtain ⟨hk, hr⟩ := rdn_of hC
  have HK := Aside0.mk hk
  have HPV : Aside0 (∀ x ∈ p, 0 ≤ x ∧ x < 18446744073709551616) := ⟨fun x hx => by have := bounds_u64 (hP x hx); omega⟩
  have HB0 : Aside0 (Below w.heap.size w (w.alloc (.cells #[.int .i64 a, .int .i64 b] 32))) := ⟨below_alloc (Below.refl _ _) _⟩
  have HR0 := Aside0.mk (hr.below HB0.out)
  have HX0 := Aside0.mk (blk_new w (.cells #[.int .i64 a, .int .i64 b] 32))
  have hs2 : s.size ≤ 140737488355328 := by omega
  clear wa wb hk hr hC hP
  obtain ⟨g, hg⟩ : ∃ g, w.heap.size = g := ⟨_, rfl⟩
  by_cases h40 : 40 < k
  · have h41 : (40 : Int) < (k : Int) := by omega
    go_enter Try.func4, Try.ntmps4
    go_wp2_with fail
    refine (awake_any _).mono ?_
    rintro e w1 ⟨rfl, hb1⟩
    go_wp2
    go_ret
    exact ⟨rfl, by first | exact below_step HB0.out hb1 | (rw [← hg]; exact below_step HB0.out hb1)⟩
  · have h41 : ¬ (40 : Int) < (k : Int) := by omega
    by_cases h100 : 100 < s.size
    · have h101 : (100 : Int) < (s.size : Int) := by omega
      go_enter Try.func4, Try.ntmps4
      go_wp2_with fail
      refine (awake_any _).mono ?_
      rintro e w1 ⟨rfl, hb1⟩
      go_wp2
      go_ret
      exact ⟨rfl, by first | exact below_step HB0.out hb1 | (rw [← hg]; exact below_step HB0.out hb1)⟩
    · have h101 : ¬ (100 : Int) < (s.size : Int) := by omega
      by_cases hin : 0 ≤ b ∧ b < a ∧ a ≤ 1099511627776
      · obtain ⟨hi0, hi1, hi2⟩ := hin
        obtain ⟨n, rfl⟩ : ∃ n : Nat, a = (n : Int) := ⟨a.toNat, by omega⟩
        obtain ⟨i, rfl⟩ : ∃ i : Nat, b = (i : Int) := ⟨b.toNat, by omega⟩
        go_enter Try.func4, Try.ntmps4
        go_wp2_with fail
        refine (awake_any _).mono ?_
        rintro e w1 ⟨rfl, hb1⟩
        have HBX : Aside0 (w1.heap[g]? = some (.cells #[.int .i64 (n : Int), .int .i64 (i : Int)] 32 (0, 0))) := ⟨hg ▸ blk_below HX0.out hb1⟩
        have HR := Aside0.mk (HR0.out.below hb1)
        have HB1 := Aside0.mk (below_step HB0.out hb1)
        have c0 : w1.cell? ⟨g, 0, none⟩ = some (.int .i64 (n : Int)) := (blk_cell HBX.out 0).trans rfl
        have c1 : w1.cell? ⟨g, 1, none⟩ = some (.int .i64 (i : Int)) := (blk_cell HBX.out 1).trans rfl
        clear hb1 HX0 HR0 HB0
        have HST := Aside0.mk (refSteps_any n i w1 (by omega) (by omega))
        obtain ⟨st, hst⟩ : ∃ st, steps n i = st := ⟨_, rfl⟩
        rw [hst] at HST
        have HSE := Aside0.mk hst
        clear hst
        go_wp2_with fail
        refine HST.out.mono ?_
        rintro e w2 ⟨rfl, rfl⟩
        have HVV : Aside0 (∀ (r : Int) (w3 : World), Below w2.heap.size w2 w3 → Calls Try.prog 12 #[.int .u64 r, .int .i64 n, .int .i64 i, .string s, .slice A k c] w3 fun e w' => e = .returned (.bool ((up n i (lf s) p).2 && decide ((up n i (lf s) p).1 = r))) ∧ Below w3.heap.size w3 w') := ⟨fun r w3 hw => verify_in r n i s p A c k w3 (by omega) (by omega) hs2 HK.out hkc hc0 (HR.out.below hw) HPV.out⟩
        by_cases hq : st = k
        · subst hq
          have HUE := Aside0.mk (up_steps n i (lf s) p (by rw [HK.out, HSE.out]))
          have HRC : Aside0 (∀ w3, Below w2.heap.size w2 w3 → Calls Try.prog 14 #[.int .i64 n, .int .i64 i, .int .u64 (lf s), .slice A st c] w3 fun e w' => e = .returned (.int .u64 (climb pr n i (lf s) p)) ∧ Below w3.heap.size w3 w') := ⟨fun w3 hw => refClimb_any n i (lf s) p A c st w3 (by omega) (by omega) (by omega) (lf_in s) HK.out HSE.out.symm hkc hc0 (HR.out.below hw) HPV.out⟩
          have HCI := climb_in n i (lf s) p (lf_in s)
          obtain ⟨r, hr⟩ : ∃ r, climb pr n i (lf s) p = r := ⟨_, rfl⟩
          rw [hr] at HUE HRC HCI
          have HV1 : Aside0 (∀ w3, Below w2.heap.size w2 w3 → Calls Try.prog 12 #[.int .u64 r, .int .i64 n, .int .i64 i, .string s, .slice A st c] w3 fun e w' => e = .returned (.bool true) ∧ Below w3.heap.size w3 w') := ⟨fun w3 hw => by
            have := HVV.out r w3 hw
            rw [HUE.out] at this
            simpa using this⟩
          have HV2 : Aside0 (∀ w3, Below w2.heap.size w2 w3 → Calls Try.prog 12 #[.int .u64 (bits .xor .u64 r 1), .int .i64 n, .int .i64 i, .string s, .slice A st c] w3 fun e w' => e = .returned (.bool false) ∧ Below w3.heap.size w3 w') := ⟨fun w3 hw => by
            have := HVV.out (bits .xor .u64 r 1) w3 hw
            rw [HUE.out] at this
            simp only [xor_ne r HCI.1 HCI.2, Bool.true_and] at this
            exact this⟩
          clear HVV HUE hr HCI HST
          go_wp2
          refine St.steadyR (n := 9) (by kernel_rfl) ([] :: [(0, 59)] :: [] :: [(2, 61)] :: [] :: [(4, 63)] :: [] :: [(1, 60), (3, 62), (5, 64), (6, 65)] :: [(7, 66)] :: []) (some 59 :: some 60 :: some 61 :: some 62 :: some 63 :: some 64 :: some 65 :: some 66 :: some 8 :: []) (by kernel_rfl) ((St.eqT ?c10_0x16) :: (St.eqT ?c10_1x16) :: (St.eqT ?c10_2x16) :: (St.eqT ?c10_3x16) :: (St.eqT ?c10_4x16) :: (St.eqT ?c10_5x16) :: (St.eqT ?c10_6x16) :: (St.eqT ?c10_7x16) :: (St.eqT ?c10_8x16) :: []) rfl (by rfl) (fun w' => Below w2.heap.size w2 w') (fun w w' => Below w.heap.size w w') ?hst ?h0 ?hB ?hop ?hend
          case hop =>
            refine ⟨?_, ?_, ?_, ?_, ?_, ?_, ?_, ?_, ?_, trivial⟩
            · intro w hB
              simp only [St.withD]
              refine St.ob_value (v := ?_) (w' := w) (by rfl) ?_ ⟨Below.refl _ _, ?_⟩
              rotate_left
              · go_simp
                with_reducible rfl
              · rfl
            · intro w hB; rintro _ ⟨_, rfl⟩
              simp only [St.withD, List.nil_append, List.cons_append, Act.put, List.setIfInBounds_toArray, List.set_cons_zero, List.set_cons_succ]
              have c0 : w.cell? ⟨g, 0, none⟩ = some (.int .i64 (n : Int)) := (blk_cell (blk_below HBX.out hB) 0).trans rfl
              have c1 : w.cell? ⟨g, 1, none⟩ = some (.int .i64 (i : Int)) := (blk_cell (blk_below HBX.out hB) 1).trans rfl
              refine St.ob_value (v := ?_) (w' := w) (by rfl) ?_ ⟨Below.refl _ _, ?_⟩
              rotate_left
              · go_simp
                with_reducible rfl
              · rfl
            · intro w hB
              simp only [St.withD]
              refine St.ob_value (v := ?_) (w' := w) (by rfl) ?_ ⟨Below.refl _ _, ?_⟩
              rotate_left
              · go_simp
                with_reducible rfl
              · rfl
            · intro w hB; rintro _ ⟨_, rfl⟩
              simp only [St.withD, List.nil_append, List.cons_append, Act.put, List.setIfInBounds_toArray, List.set_cons_zero, List.set_cons_succ]
              have c0 : w.cell? ⟨g, 0, none⟩ = some (.int .i64 (n : Int)) := (blk_cell (blk_below HBX.out hB) 0).trans rfl
              have c1 : w.cell? ⟨g, 1, none⟩ = some (.int .i64 (i : Int)) := (blk_cell (blk_below HBX.out hB) 1).trans rfl
              refine St.ob_value (v := ?_) (w' := w) (by rfl) ?_ ⟨Below.refl _ _, ?_⟩
              rotate_left
              · go_simp
                with_reducible rfl
              · rfl
            · intro w hB
              simp only [St.withD]
              refine St.ob_value (v := ?_) (w' := w) (by rfl) ?_ ⟨Below.refl _ _, ?_⟩
              rotate_left
              · go_simp
                with_reducible rfl
              · rfl
            · intro w hB; rintro _ ⟨_, rfl⟩
              simp only [St.withD, List.nil_append, List.cons_append, Act.put, List.setIfInBounds_toArray, List.set_cons_zero, List.set_cons_succ]
              refine St.ob_call Try.func15 (by kernel_rfl) rfl #[.string s] (by rfl) rfl (by (try simp only [List.map_toArray, List.map_cons, List.map_nil]); first | done | rfl | (simp only [List.length_drop, List.length_take]; rfl)) ?_
              refine (refLeaf_any s w hs2).mono ?_
              rintro e w2 ⟨rfl, rfl⟩
              refine ⟨_, rfl, Below.refl _ _, ?_⟩
              rfl
            · intro w hB
              simp only [St.withD]
              refine St.ob_value (v := ?_) (w' := w) (by rfl) ?_ ⟨Below.refl _ _, ?_⟩
              rotate_left
              · go_simp
                with_reducible rfl
              · rfl
            · intro w hB; rintro _ ⟨_, rfl⟩ _ ⟨_, rfl⟩ _ ⟨_, rfl⟩ _ ⟨_, rfl⟩
              simp only [St.withD, List.nil_append, List.cons_append, Act.put, List.setIfInBounds_toArray, List.set_cons_zero, List.set_cons_succ]
              refine St.ob_call Try.func14 (by kernel_rfl) rfl #[.int .i64 n, .int .i64 i, .int .u64 (lf s), .slice A st c] (by rfl) rfl (by (try simp only [List.map_toArray, List.map_cons, List.map_nil]); first | done | rfl | (simp only [List.length_drop, List.length_take]; rfl)) ?_
              refine (HRC.out w hB).mono ?_
              rintro e w2 ⟨rfl, hb2⟩
              refine ⟨_, rfl, hb2, ?_⟩
              rfl
            · intro w hB; rintro _ ⟨_, rfl⟩
              simp only [St.withD, List.nil_append, List.cons_append, Act.put, List.setIfInBounds_toArray, List.set_cons_zero, List.set_cons_succ]
              refine St.ob_value (v := ?_) (w' := w) (by rfl) ?_ ⟨Below.refl _ _, ?_⟩
              rotate_left
              · go_simp
                with_reducible rfl
              · rfl
          case hst => exact ⟨St.eqT_st, St.eqT_st, St.eqT_st, St.eqT_st, St.eqT_st, St.eqT_st, St.eqT_st, St.eqT_st, St.eqT_st, trivial⟩
          case h0 => exact below_drew (Below.refl _ _)
          case hB => exact fun w w' h k => below_step h k
          case hend =>
            intro w hB
            rintro _ rfl _ rfl _ rfl _ rfl _ rfl _ rfl _ rfl _ rfl _ rfl
            simp only [List.map_cons, List.map_nil, List.nil_append, List.cons_append, List.getD_cons_zero, List.getD_cons_succ, Act.put, List.setIfInBounds_toArray, List.set_cons_zero, List.set_cons_succ]
            rw [St.withE_nil]
            have HB3 := Aside0.mk hB
            have c0 : w.cell? ⟨g, 0, none⟩ = some (.int .i64 (n : Int)) := (blk_cell (blk_below HBX.out hB) 0).trans rfl
            have c1 : w.cell? ⟨g, 1, none⟩ = some (.int .i64 (i : Int)) := (blk_cell (blk_below HBX.out hB) 1).trans rfl
            clear hB HRC
            go_wp2_with fail
            refine (HV1.out w HB3.out).mono ?_
            rintro e w3 ⟨rfl, hb3⟩
            have c0 : w3.cell? ⟨g, 0, none⟩ = some (.int .i64 (n : Int)) := (blk_cell (blk_below HBX.out (below_step HB3.out hb3)) 0).trans rfl
            have c1 : w3.cell? ⟨g, 1, none⟩ = some (.int .i64 (i : Int)) := (blk_cell (blk_below HBX.out (below_step HB3.out hb3)) 1).trans rfl
            go_wp2_with fail
            refine (HV2.out w3 (below_step HB3.out hb3)).mono ?_
            rintro e w4 ⟨rfl, hb4⟩
            go_wp2
            go_ret
            exact ⟨rfl, by first | exact below_step HB1.out (below_step (below_step HB3.out hb3) hb4) | (rw [← hg]; exact below_step HB1.out (below_step (below_step HB3.out hb3) hb4))⟩
        · have HUE := Aside0.mk (up_not n i (lf s) p (by rw [HK.out, HSE.out]; exact fun e => hq e.symm))
          have HV0 : Aside0 (Calls Try.prog 12 #[.int .u64 0, .int .i64 n, .int .i64 i, .string s, .slice A k c] w2 fun e w' => e = .returned (.bool false) ∧ Below w2.heap.size w2 w') := ⟨by
            have := HVV.out 0 w2 (Below.refl _ _)
            rw [HUE.out] at this
            simpa using this⟩
          have hq1 : ¬ (st : Int) = (k : Int) := by omega
          clear HVV HUE HST hq
          go_wp2_with fail
          refine HV0.out.mono ?_
          rintro e w3 ⟨rfl, hb3⟩
          go_wp2
          go_ret
          exact ⟨rfl, by first | exact below_step HB1.out hb3 | (rw [← hg]; exact below_step HB1.out hb3)⟩
      · have hout : b < 0 ∨ a ≤ b ∨ 1099511627776 < a := by omega
        have HO : Aside0 (∀ w1, Calls Try.prog 12 #[.int .u64 0, .int .i64 a, .int .i64 b, .string s, .slice A k c] w1 fun e w' => e = .returned (.bool false) ∧ w' = w1) := ⟨fun w1 => verify_out 0 a b s _ w1 hout⟩
        have HOUT := Aside0.mk hout
        clear hin hout
        rw [hg] at HX0
        by_cases x1 : 1099511627776 < a
        all_goals by_cases x2 : b < 0
        all_goals by_cases x3 : a ≤ b
        all_goals first
          | (exfalso; have := HOUT.out; omega)
          | (go_enter Try.func4, Try.ntmps4
             go_wp2_with fail
             refine (awake_any _).mono ?_
             rintro e w1 ⟨rfl, hb1⟩
             have HBX : Aside0 (w1.heap[g]? = some (.cells #[.int .i64 a, .int .i64 b] 32 (0, 0))) := ⟨blk_below HX0.out hb1⟩
             have HB1 := Aside0.mk (below_step HB0.out hb1)
             have c0 : w1.cell? ⟨g, 0, none⟩ = some (.int .i64 a) := (blk_cell HBX.out 0).trans rfl
             have c1 : w1.cell? ⟨g, 1, none⟩ = some (.int .i64 b) := (blk_cell HBX.out 1).trans rfl
             clear hb1
             go_wp2_with fail
             refine (HO.out _).mono ?_
             rintro e w2 ⟨rfl, rfl⟩
             go_wp2
             go_ret
             exact ⟨rfl, by first | exact HB1.out | (rw [← hg]; exact HB1.out)⟩)
end Go.Proofs.Ytfafekejjnpbcaa
