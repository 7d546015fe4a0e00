/- Whether any steps make a text: the document's. -/
import Derived.Test.YtfijbhacobjjgadProg
import Derived.Test.YtfijbhacobjjgadVals
import Derived.Test.YtfijbhacobjjgadWLast
import Derived.Test.YtfijbhacobjjgadWMore
import Derived.RegionTactic
import Derived.ChangeAlike
import Derived.BigRegion
import Derived.WalkLawsBesides
import Derived.WalkSpells
import Derived.Deep.LoopGhost
import Derived.Deep.QuietTactic
import Derived.BigQuiet
import Derived.OwnWalk
import Derived.Test.YtfijbhacobjjgadFindB
import Derived.OpenShut
namespace Go.Proofs.Ytfijbhacobjjgad
open Go.RowKit Go.Proofs.YtfijbhacobjjgadW.PrintWords Go.Proofs.YtfijbhacobjjgadW.PrintLast Go.Proofs.YtfijbhacobjjgadW.PrintMore Go.Proofs.Ytfijbhacobjjgad.Fr
set_option linter.unusedVariables false
set_option linter.unusedSimpArgs false
attribute [local go_sem] max2_int min2_int max_two min_two
/-- Where it answers true, the steps make the text. -/
def R12Post (D S : ByteArray) (xs : List Pl.Stp) (w : World) (e : Ending) (w' : World) : Prop := (∃ b, e = .returned (.bool b) ∧ (b = true → Pl.right (D.data.toList ++ S.data.toList) xs D.size)) ∧ Below w.heap.size w w'
set_option maxRecDepth 100000 in
set_option maxHeartbeats 4000000 in
theorem r12_gen (D S : ByteArray) (A0 : Option Addr) (cap : Nat) (xs : List Pl.Stp) (w0 : World) (hD : D.size ≤ 1000) (hSs : S.size ≤ 1000) (hxl : xs.length ≤ 1000) (hS : Steps w0 A0 xs) (hW : ∀ p ∈ xs, (Lit.int .i64 p.1).wf = true ∧ (Lit.int .i64 p.2.1).wf = true ∧ (Lit.int .i64 p.2.2).wf = true) :
    Calls Try.prog 9 #[.string D, .string S, .slice A0 xs.length cap] w0 (R12Post D S xs w0) := by
  have HS := Aside0.mk hS
  have HW := Aside0.mk hW
  have hXs : (D ++ S).size = D.size + S.size := by rw [ByteArray.size_append]
  clear hS hW
  go_enter Try.func9, Try.ntmps9
  go_wp2
  obtain ⟨X, hX⟩ : ∃ X, D ++ S = X := ⟨_, rfl⟩
  obtain ⟨n, hn⟩ : ∃ n, X.size = n := ⟨_, rfl⟩
  have hXl : X.data.toList.length = n := by rw [data_length]; exact hn
  rw [hX] at hXs
  rw [hX]
  rw [hn] at hXs
  have hn1 : n ≤ 2000 := by omega
  have HN := Aside0.mk (And.intro hn (And.intro hX (And.intro hXl hXs)))
  have hdn : D.size ≤ n := by omega
  clear hn hX hXl hXs
  go_loopg [8, 9] xs.length (fun gk x y wr => ∃ (k a : Nat), Aside0 (k + gk = xs.length) ∧ x = .int .i64 a ∧ y = .int .i64 k ∧ Aside0 (Pl.right X.data.toList (xs.take k) D.size ∧ pos (xs.take k) D.size = a ∧ a ≤ n) ∧ Aside0 (Below w0.heap.size w0 wr))
  case atStart => exact ⟨0, D.size, ⟨by omega⟩, rfl, rfl, ⟨trivial, rfl, hdn⟩, ⟨Below.refl _ _⟩⟩
  case round =>
    obtain ⟨k, a, HK, rfl, rfl, HI, HB⟩ := hrel
    have han := HI.out.2.2
    by_cases hlt : k < xs.length
    · obtain ⟨ad, rfl, hc0, hc1, hc2⟩ := (HS.out.below HB.out) k hlt
      have hwf := HW.out (xs.getD k (0, 0, 0)) (by rw [List.getD_eq_getElem?_getD, List.getElem?_eq_getElem hlt]; exact List.getElem_mem _)
      have hsn : xs.take (k + 1) = xs.take k ++ [xs.getD k (0, 0, 0)] := by rw [List.take_add_one, List.getElem?_eq_getElem hlt, List.getD_eq_getElem?_getD, List.getElem?_eq_getElem hlt]; rfl
      obtain ⟨s1, s2, s3, hs⟩ : ∃ s1 s2 s3, xs.getD k (0, 0, 0) = (s1, s2, s3) := ⟨_, _, _, rfl⟩
      rw [hs] at hc0 hc1 hc2 hwf hsn
      have HSN := Aside0.mk hsn
      simp only at hc0 hc1 hc2 hwf
      rw [← add_add, cell_off _ (by decide)] at hc1 hc2
      obtain ⟨⟨v1, v2⟩, ⟨v3, v4⟩, ⟨v5, v6⟩⟩ := And.intro (bounds_i64 hwf.1) (And.intro (bounds_i64 hwf.2.1) (bounds_i64 hwf.2.2))
      clear hs hsn hwf
      have hsz : X.size = n := HN.out.1
      by_cases e0 : s1 < 0
      · have d0 : decide (s1 < 0) = true := decide_eq_true e0
        go_wp2
        go_ret
        exact ⟨⟨false, rfl, fun h => by cases h⟩, below_alloc HB.out _⟩
      · have d0 : decide (s1 < 0) = false := decide_eq_false e0
        by_cases e1 : (n : Int) < s1
        · have d1 : decide ((n : Int) < s1) = true := decide_eq_true e1
          go_wp2
          go_ret
          exact ⟨⟨false, rfl, fun h => by cases h⟩, below_alloc HB.out _⟩
        · have d1 : decide ((n : Int) < s1) = false := decide_eq_false e1
          by_cases e2 : s2 < 3
          · have d2 : decide (s2 < 3) = true := decide_eq_true e2
            go_wp2
            go_ret
            exact ⟨⟨false, rfl, fun h => by cases h⟩, below_alloc HB.out _⟩
          · have d2 : decide (s2 < 3) = false := decide_eq_false e2
            by_cases e3 : (n : Int) < s2
            · have d3 : decide ((n : Int) < s2) = true := decide_eq_true e3
              go_wp2
              go_ret
              exact ⟨⟨false, rfl, fun h => by cases h⟩, below_alloc HB.out _⟩
            · have d3 : decide ((n : Int) < s2) = false := decide_eq_false e3
              by_cases e4 : s3 < 1
              · have d4 : decide (s3 < 1) = true := decide_eq_true e4
                go_wp2
                go_ret
                exact ⟨⟨false, rfl, fun h => by cases h⟩, below_alloc HB.out _⟩
              · have d4 : decide (s3 < 1) = false := decide_eq_false e4
                by_cases e5 : (n : Int) < s3
                · have d5 : decide ((n : Int) < s3) = true := decide_eq_true e5
                  go_wp2
                  go_ret
                  exact ⟨⟨false, rfl, fun h => by cases h⟩, below_alloc HB.out _⟩
                · have d5 : decide ((n : Int) < s3) = false := decide_eq_false e5
                  obtain ⟨ln, rfl⟩ : ∃ ln : Nat, s1 = (ln : Int) := ⟨s1.toNat, by omega⟩
                  obtain ⟨mn, rfl⟩ : ∃ mn : Nat, s2 = (mn : Int) := ⟨s2.toNat, by omega⟩
                  obtain ⟨on, rfl⟩ : ∃ on : Nat, s3 = (on : Int) := ⟨s3.toNat, by omega⟩
                  clear d1 d3 d5
                  have d1 : decide (n < ln) = false := decide_eq_false (by omega)
                  have d3 : decide (n < mn) = false := decide_eq_false (by omega)
                  have d5 : decide (n < on) = false := decide_eq_false (by omega)
                  have b1 : 3 ≤ mn := by omega
                  have b2 : 1 ≤ on := by omega
                  have b3 : ln ≤ n ∧ mn ≤ n ∧ on ≤ n := by omega
                  clear e0 e1 e2 e3 e4 e5
                  by_cases e6 : n < a + ln + mn
                  · have d6 : (n : Int) < (a : Int) + (ln : Int) + (mn : Int) := by omega
                    go_wp2
                    go_ret
                    exact ⟨⟨false, rfl, fun h => by cases h⟩, below_alloc HB.out _⟩
                  · have d6 : ¬ (n : Int) < (a : Int) + (ln : Int) + (mn : Int) := by omega
                    by_cases e7 : a + ln < on
                    · have d7 : (a : Int) + (ln : Int) < (on : Int) := by omega
                      go_wp2
                      go_ret
                      exact ⟨⟨false, rfl, fun h => by cases h⟩, below_alloc HB.out _⟩
                    · have d7 : ¬ (a : Int) + (ln : Int) < (on : Int) := by omega
                      have HB2 : Aside0 (Below w0.heap.size w0 (wr.alloc (.cells #[.int .i64 ln, .int .i64 mn, .int .i64 on] 35))) := ⟨below_step HB.out (below_alloc (Below.refl _ _) _)⟩
                      have HG : Aside0 ((wr.alloc (.cells #[.int .i64 ln, .int .i64 mn, .int .i64 on] 35)).heap[wr.heap.size]? = some (.cells #[.int .i64 ln, .int .i64 mn, .int .i64 on] 35 (0, 0))) := ⟨blk_new wr _⟩
                      go_wp2_with fail
                      clear d0 d1 d2 d3 d4 d5 hsz hc0 hc1 hc2
                      generalize wr.alloc (.cells #[.int .i64 ln, .int .i64 mn, .int .i64 on] 35) = W2 at HB2 HG ⊢
                      generalize wr.heap.size = gx at HG ⊢
                      obtain ⟨gk1, rfl⟩ : ∃ g1 : Nat, g1 = gk := ⟨_, rfl⟩
                      obtain ⟨wo, rfl⟩ : ∃ wo : World, wo = wr := ⟨_, rfl⟩
                      go_loopg [8, 11] mn (fun gk x y wr => ∃ j : Nat, Aside0 (j + gk = mn) ∧ x = .int .i64 ((a + ln + j : Nat) : Int) ∧ y = .int .i64 j ∧ Aside0 (∀ i, i < j → bgx X (a + ln + i) = bgx X (a + ln + i - on)) ∧ Aside0 (Drawn0 W2 wr))
                      case atStart => exact ⟨0, ⟨by omega⟩, by go_num, rfl, ⟨fun i hi => by omega⟩, ⟨Drawn0.refl _⟩⟩
                      case round =>
                        obtain ⟨j, HJ, rfl, rfl, HSM, HD⟩ := hrel
                        have hg := blk_below HG.out HD.out.below
                        have c1 : wr.cell? ⟨gx, 1, none⟩ = some (.int .i64 mn) := (blk_cell hg 1).trans rfl
                        have c2 : wr.cell? ⟨gx, 2, none⟩ = some (.int .i64 on) := (blk_cell hg 2).trans rfl
                        clear hg
                        by_cases hj : j < mn
                        · obtain ⟨p, hp⟩ : ∃ p, a + ln + j = p := ⟨_, rfl⟩
                          obtain ⟨q, hq⟩ : ∃ q, p - on = q := ⟨_, rfl⟩
                          have hsz : X.size = n := HN.out.1
                          have hpn : p < X.size := by omega
                          have hqn : q < X.size := by omega
                          have hw : IntKind.i64.wrap ((p : Int) - (on : Int)) = (q : Int) := by rw [IntKind.wrap_i64]; omega
                          have hpi : (p : Int) < (X.size : Int) := by omega
                          have hqi : (q : Int) < (X.size : Int) := by omega
                          rw [hp]
                          have HP := Aside0.mk (And.intro hp hq)
                          have hp2 : p ≤ 2000 := by omega
                          by_cases hbb : X[p] = X[q]
                          · have hne : ((X[p].toNat : Int) != (X[q].toNat : Int)) = false := by rw [hbb]; simp
                            have HBB : Aside0 (bgx X p = bgx X q) := ⟨by rw [← bgx_get X p hpn, ← bgx_get X q hqn]; exact hbb⟩
                            clear hbb hp hq hsz
                            go_wp2
                            go_quiet (fail)
                            clear hw
                            go_wp2
                            go_roundg (gk - 1)
                            case measure => have := HJ.out; omega
                            case rel => exact ⟨j + 1, ⟨by have := HJ.out; omega⟩, by have := HP.out.1; rw [show a + ln + (j + 1) = p + 1 by omega]; go_num, by go_num, ⟨fun i hi => by
                              by_cases e : i = j
                              · subst e; rw [HP.out.1, HP.out.2]; exact HBB.out
                              · exact HSM.out i (by omega)⟩, ⟨HD.out.step _⟩⟩
                          · have hne : ((X[p].toNat : Int) != (X[q].toNat : Int)) = true := by
                              have : X[p].toNat ≠ X[q].toNat := fun h => hbb (UInt8.toNat_inj.1 h)
                              simp; omega
                            clear hbb hp hq hsz
                            go_wp2
                            go_quiet (fail)
                            clear hw
                            go_wp2
                            go_ret
                            exact ⟨⟨false, rfl, fun h => by cases h⟩, below_step HB2.out (HD.out.step _).below⟩
                        · obtain rfl : j = mn := by have := HJ.out; omega
                          have HNX : Aside0 (Pl.right X.data.toList (xs.take (k + 1)) D.size ∧ pos (xs.take (k + 1)) D.size = a + ln + j ∧ a + ln + j ≤ n) := ⟨by
                            rw [HSN.out]
                            refine right_snoc _ _ _ _ HI.out.1 ?_ ?_
                            · unfold Pl.okStep
                              rw [HI.out.2.1, HN.out.2.2.1]
                              simp only
                              omega
                            · intro i hi
                              simp only [Int.toNat_natCast] at hi ⊢
                              rw [HI.out.2.1]
                              exact HSM.out i hi, by
                            rw [HSN.out, pos_snoc, HI.out.2.1]
                            simp only [Int.toNat_natCast], by omega⟩
                          go_wp2
                          go_roundg (gk1 - 1)
                          case measure => have := HK.out; omega
                          case rel => exact ⟨k + 1, a + ln + j, ⟨by have := HK.out; omega⟩, rfl, by go_num, HNX, ⟨below_step HB2.out HD.out.below⟩⟩
    · have HE : Aside0 (Pl.right (D.data.toList ++ S.data.toList) xs D.size) := ⟨by
        have h := HI.out.1
        rw [List.take_of_length_le (by omega), ← HN.out.2.1, app_list] at h
        exact h⟩
      go_wp2
      go_ret
      exact ⟨⟨true, rfl, fun _ => HE.out⟩, HB.out⟩

end Go.Proofs.Ytfijbhacobjjgad
