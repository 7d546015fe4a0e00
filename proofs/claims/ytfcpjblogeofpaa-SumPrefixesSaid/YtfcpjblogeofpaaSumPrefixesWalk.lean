/- The walk of SumPrefixes: it answers true. -/
import Derived.Test.YtfcpjblogeofpaaSumAwake
import Derived.Test.YtfcpjblogeofpaaSteadyT
namespace Go.Proofs.Ytfcpjblogeofpaa.PSumTexts
open Go.RowKit Go.Proofs.YtfcpjblogeofpaaW.PrintWords Go.Proofs.YtfcpjblogeofpaaW.PrintLast Go.Proofs.YtfcpjblogeofpaaW.PrintMore
set_option linter.unusedVariables false
set_option linter.unusedSimpArgs false

theorem pres_get (a : ByteArray) (n k : Nat) (h : k < n) : rd (pres a n) (k : Int) = sumS (stA a new0 (k + 1)) := by
  unfold rd
  rw [show ((k : Int).toNat) = k by omega]
  simp [pres, List.getD_eq_getElem?_getD, h]
set_option maxHeartbeats 1000000 in
theorem prefixes_walk (t : ByteArray) (ht : t.size ≤ 140737488351232) (w : World) :
    Calls Try.prog 4 #[.string t] w fun e w' => e = .returned (.bool true) ∧ Below w.heap.size w w' := by
  have HB := Aside0.mk (Below.refl w.heap.size w)
  by_cases hbig : 100 < t.size
  · go_enter Try.func4, Try.ntmps4
    go_wp2_with ((go_at_call 6; refine (awake_any _).mono ?_; rintro e w1 ⟨rfl, hb⟩; have zz_HB := Aside0.mk (below_step HB.out hb); clear HB; have HB := zz_HB; clear zz_HB; clear hb))
    go_ret
    exact ⟨rfl, HB.out⟩
  · have HP := Aside0.mk (fun w => prefixes_any t w (by omega))
    go_enter Try.func4, Try.ntmps4
    go_wp2_with (first
     | (go_at_call 6; refine (awake_any _).mono ?_; rintro e w1 ⟨rfl, hb⟩; have zz_HB := Aside0.mk (below_step HB.out hb); clear HB; have HB := zz_HB; clear zz_HB; clear hb)
     | (go_at_call 12; refine (HP.out _).mono ?_; rintro e w2 ⟨v, rfl, ho, hb⟩; (obtain ⟨A, c, rfl⟩ := own_slice ho); (rw [pres_length] at ho ⊢); have HO := Aside0.mk (own_reads' ho); have zz_HB := Aside0.mk (below_step HB.out hb); clear HB; have HB := zz_HB; clear zz_HB; clear hb ho))
    go_loopg [20] t.size (fun d v20 wr => ∃ k : Nat, Aside0 (k + d = t.size) ∧ v20 = .int .i64 k ∧ Aside0 (ReadsInt wr .u64 A t.size (pres t t.size)) ∧ Aside0 (Below w.heap.size w wr))
    case atStart => exact ⟨0, ⟨by omega⟩, rfl, HO, HB⟩
    case round =>
      clear HO HB
      obtain ⟨k, HK, rfl, HO, HB⟩ := hrel
      by_cases hlt : k < t.size
      · obtain ⟨ad, rfl, hcell⟩ := HO.out.at_ k (by omega) (by omega)
        have HR := Aside0.mk (ref_f (t.extract 0 (k + 1)) (by rw [ByteArray.size_extract]; omega))
        rw [stA_head t new0 (k + 1) (by omega)] at HR
        rw [pres_get t t.size k hlt, show ((k : Int).toNat) = k by omega] at hcell
        go_wp2_with ((go_at_call 10; refine (pemmicanref04_Of.calls _ _ _ _ HR.out).mono ?_; rintro e w3 ⟨rfl, hb⟩; have zz_HO := Aside0.mk (HO.out.below hb.below); have zz_HB := Aside0.mk (below_step HB.out hb.below); clear HO; clear HB; have HO := zz_HO; have HB := zz_HB; clear zz_HO; clear zz_HB; clear hb))
        go_roundg (gk - 1)
        case measure => have := HK.out; omega
        case rel => exact ⟨k + 1, ⟨by have := HK.out; omega⟩, by go_num, HO, HB⟩
      · go_wp2
        go_ret
        exact ⟨rfl, HB.out⟩
end Go.Proofs.Ytfcpjblogeofpaa.PSumTexts
