/- The walk of the law's first lines (awake): they answer true. -/
import Derived.Test.YtfcpjblogeofpaaSumLaw
namespace Go.Proofs.Ytfcpjblogeofpaa.PSumTexts
open Go.RowKit Go.Proofs.YtfcpjblogeofpaaW.PrintWords Go.Proofs.YtfcpjblogeofpaaW.PrintLast Go.Proofs.YtfcpjblogeofpaaW.PrintMore
set_option linter.unusedVariables false
set_option linter.unusedSimpArgs false
def abT : ByteArray := { data := #[97, 98] }
def aT : ByteArray := { data := #[97] }
def bT : ByteArray := { data := #[98] }
def abX : Int := sumS (stA abT new0 2)
def aS : Int × Int := stA aT new0 1
def bS : Int × Int := stA bT aS 1
theorem ab1 : sum_Of.f 3 abT = some abX := by kernel_rfl
theorem ab2 : sum_State_Add.f 2 new0.1 new0.2 aT = some (aS.1, aS.2) := by kernel_rfl
theorem ab3 : sum_State_Add.f 2 aS.1 aS.2 bT = some (bS.1, bS.2) := by kernel_rfl
theorem ab4 : sum_State_Sum.f bS.1 bS.2 = some abX := by kernel_rfl
theorem ab5 : pemmicanref04_Of.f 3 abT = some abX := by kernel_rfl
set_option maxHeartbeats 1000000 in
theorem awake_any (w : World) :
    Calls Try.prog 6 #[] w fun e w' => e = .returned (.bool true) ∧ Below w.heap.size w w' := by
  have HB := Aside0.mk (Below.refl w.heap.size w)
  have H1 := Aside0.mk ab1
  have H2 := Aside0.mk ab2
  have H3 := Aside0.mk ab3
  have H4 := Aside0.mk ab4
  have H5 := Aside0.mk ab5
  have HN : Aside0 (sum_New.f = some (new0.1, new0.2)) := Aside0.mk rfl
  have HP := Aside0.mk (fun w => prefixes_any abT w (by decide))
  have hl : (pres abT abT.size).length = 2 := by rw [pres_length]; rfl
  go_enter Try.func6, Try.ntmps6
  go_wp2_with (first
   | ((with_reducible refine gate_dst (N := 1) rfl ?_); (with_reducible refine gate_callee (f := 9) rfl ?_); refine goesL_ (some 1) rfl rfl Try.func9 (by kernel_rfl) rfl #[.string abT] rfl (by (try simp only [List.map_toArray, List.map_cons, List.map_nil]); first | done | rfl | (simp only [List.length_drop, List.length_take]; rfl)) ?_; (with_reducible refine (sum_Of.calls _ _ _ _ H1.out).mono ?_); rintro e w1 ⟨rfl, hb⟩; refine ⟨_, rfl, ?_⟩; have zz_HB := Aside0.mk (below_step HB.out hb); clear HB; have HB := zz_HB; clear zz_HB; clear hb)
   | ((with_reducible refine gate_dst (N := 2) rfl ?_); (with_reducible refine gate_callee (f := 7) rfl ?_); refine goesL_ (some 2) rfl rfl Try.func7 (by kernel_rfl) rfl #[] rfl (by (try simp only [List.map_toArray, List.map_cons, List.map_nil]); first | done | rfl | (simp only [List.length_drop, List.length_take]; rfl)) ?_; (with_reducible refine (sum_New.calls _ _ _ HN.out).mono ?_); rintro e w2 ⟨rfl, hb⟩; refine ⟨_, rfl, ?_⟩; have zz_HB := Aside0.mk (below_step HB.out hb); clear HB; have HB := zz_HB; clear zz_HB; clear hb)
   | ((with_reducible refine gate_dst (N := 3) rfl ?_); (with_reducible refine gate_callee (f := 8) rfl ?_); refine goesL_ (some 3) rfl rfl Try.func8 (by kernel_rfl) rfl #[.agg #[.int .u64 new0.1, .int .u64 new0.2], .string aT] rfl (by (try simp only [List.map_toArray, List.map_cons, List.map_nil]); first | done | rfl | (simp only [List.length_drop, List.length_take]; rfl)) ?_; (with_reducible refine (sum_State_Add.calls _ _ _ _ _ _ _ H2.out).mono ?_); rintro e w3 ⟨rfl, hb⟩; refine ⟨_, rfl, ?_⟩; have zz_HB := Aside0.mk (below_step HB.out hb); clear HB; have HB := zz_HB; clear zz_HB; clear hb)
   | ((with_reducible refine gate_dst (N := 4) rfl ?_); (with_reducible refine gate_callee (f := 8) rfl ?_); refine goesL_ (some 4) rfl rfl Try.func8 (by kernel_rfl) rfl #[.agg #[.int .u64 aS.1, .int .u64 aS.2], .string bT] rfl (by (try simp only [List.map_toArray, List.map_cons, List.map_nil]); first | done | rfl | (simp only [List.length_drop, List.length_take]; rfl)) ?_; (with_reducible refine (sum_State_Add.calls _ _ _ _ _ _ _ H3.out).mono ?_); rintro e w4 ⟨rfl, hb⟩; refine ⟨_, rfl, ?_⟩; have zz_HB := Aside0.mk (below_step HB.out hb); clear HB; have HB := zz_HB; clear zz_HB; clear hb)
   | ((with_reducible refine gate_dst (N := 5) rfl ?_); (with_reducible refine gate_callee (f := 11) rfl ?_); refine goesL_ (some 5) rfl rfl Try.func11 (by kernel_rfl) rfl #[.agg #[.int .u64 bS.1, .int .u64 bS.2]] rfl (by (try simp only [List.map_toArray, List.map_cons, List.map_nil]); first | done | rfl | (simp only [List.length_drop, List.length_take]; rfl)) ?_; (with_reducible refine (sum_State_Sum.calls _ _ _ _ H4.out).mono ?_); rintro e w5 ⟨rfl, hb⟩; refine ⟨_, rfl, ?_⟩; have zz_HB := Aside0.mk (below_step HB.out hb); clear HB; have HB := zz_HB; clear zz_HB; clear hb)
   | (go_at_call 9; refine (sum_Of.calls _ _ _ _ H1.out).mono ?_; rintro e w6 ⟨rfl, hb⟩; have zz_HB := Aside0.mk (below_step HB.out hb); clear HB; have HB := zz_HB; clear zz_HB; clear hb)
   | (go_at_call 10; refine (pemmicanref04_Of.calls _ _ _ _ H5.out).mono ?_; rintro e w7 ⟨rfl, hb⟩; have zz_HB := Aside0.mk (below_step HB.out hb.below); clear HB; have HB := zz_HB; clear zz_HB; clear hb)
   | (go_at_call 12; refine (HP.out _).mono ?_; rintro e w8 ⟨v, rfl, ho, hb⟩; (obtain ⟨A, c, rfl⟩ := own_slice ho); have zz_HB := Aside0.mk (below_step HB.out hb); clear HB; have HB := zz_HB; clear zz_HB; clear hb ho))
  go_ret
  exact ⟨rfl, HB.out⟩
end Go.Proofs.Ytfcpjblogeofpaa.PSumTexts
