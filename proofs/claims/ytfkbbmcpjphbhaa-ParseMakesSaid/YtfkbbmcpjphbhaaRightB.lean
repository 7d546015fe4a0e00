/- Whether steps that make a text do so: the program's. -/
import Derived.Test.YtfkbbmcpjphbhaaProg
import Derived.Test.YtfkbbmcpjphbhaaVals
import Derived.Test.YtfkbbmcpjphbhaaWLast
import Derived.Test.YtfkbbmcpjphbhaaWMore
import Derived.RegionTactic
import Derived.ChangeAlike
import Derived.BigRegion
import Derived.WalkLawsBesides
import Derived.WalkSpells
import Derived.Deep.LoopGhost
import Derived.Deep.QuietTactic
import Derived.BigQuiet
import Derived.OwnWalk
import Derived.Test.YtfkbbmcpjphbhaaFindB
import Derived.Test.YtfkbbmcpjphbhaaStrs
namespace Go.Proofs.Ytfkbbmcpjphbhaa
open Go.RowKit Go.Proofs.YtfkbbmcpjphbhaaW.PrintWords Go.Proofs.YtfkbbmcpjphbhaaW.PrintLast Go.Proofs.YtfkbbmcpjphbhaaW.PrintMore Go.Proofs.Ytfkbbmcpjphbhaa.Fr
set_option linter.unusedVariables false
set_option linter.unusedSimpArgs false
attribute [local go_sem] max2_int min2_int max_two min_two

open Pl
theorem ext_same (X : ByteArray) (p o m : Nat) (hp : p + m ≤ X.size) (ho : o ≤ p) (h : ∀ i, i < m → X.data.toList.getD (p + i) 0 = X.data.toList.getD (p + i - o) 0) : X.extract (p - o) (p - o + m) = X.extract p (p + m) := by
  apply ByteArray.ext; apply Array.ext'
  rw [ext_mid, ext_mid]
  have hl : X.data.toList.length = X.size := data_length X
  apply List.ext_getElem
  · rw [List.length_take, List.length_take, List.length_drop, List.length_drop]; omega
  · intro i h1 h2
    rw [List.length_take] at h1
    have := h i (by omega)
    simp only [List.getD_eq_getElem?_getD] at this
    rw [List.getElem?_eq_getElem (by omega), List.getElem?_eq_getElem (by omega)] at this
    simp only [Option.getD_some] at this
    simp only [List.getElem_take, List.getElem_drop]
    rw [this]
    congr 1
    omega
set_option maxRecDepth 100000 in
set_option maxHeartbeats 4000000 in
theorem pright_any (D S : ByteArray) (A0 : Option Addr) (cap : Nat) (xs : List Stp) (w0 : World) (hD : D.size ≤ 1000) (hSs : S.size ≤ 1000) (hxl : xs.length ≤ 1000) (hS : Steps w0 A0 xs) (hR : right (D.data.toList ++ S.data.toList) xs D.size) :
    Calls Try.prog 7 #[.string D, .string S, .slice A0 xs.length cap] w0 fun e w' => e = .returned (.bool true) ∧ Below w0.heap.size w0 w' := by
  have HS := Aside0.mk hS
  have hXs : (D ++ S).size = D.size + S.size := by rw [ByteArray.size_append]
  have HR := Aside0.mk hR
  clear hS hR
  go_enter Try.func7, Try.ntmps7
  go_wp2
  obtain ⟨X, hX⟩ : ∃ X, D ++ S = X := ⟨_, rfl⟩
  obtain ⟨n, hn⟩ : ∃ n, X.size = n := ⟨_, rfl⟩
  have hXl : X.data.toList.length = n := by rw [data_length]; exact hn
  rw [← app_list, hX] at HR
  rw [hX] at hXs
  rw [hX]
  rw [hn] at hXs
  have hn1 : n ≤ 2000 := by omega
  have HN := Aside0.mk (And.intro hn (And.intro hX (And.intro hXl hXs)))
  clear hn hX hXl hXs
  go_loopg [8, 18] xs.length (fun gk x y wr => ∃ (k a : Nat), Aside0 (k + gk = xs.length) ∧ x = .int .i64 a ∧ y = .int .i64 k ∧ Aside0 (right X.data.toList (xs.drop k) a ∧ a ≤ n) ∧ Aside0 (Below w0.heap.size w0 wr))
  case atStart => exact ⟨0, D.size, ⟨by omega⟩, rfl, rfl, ⟨HR.out, by have := HN.out; omega⟩, ⟨Below.refl _ _⟩⟩
  case round =>
    obtain ⟨k, a, HK, rfl, rfl, HI, HB⟩ := hrel
    obtain ⟨hr, han⟩ := HI.out
    by_cases hlt : k < xs.length
    · obtain ⟨ad, rfl, hc0, hc1, hc2⟩ := (HS.out.below HB.out) k hlt
      obtain ⟨s1, s2, s3, hs⟩ : ∃ s1 s2 s3, xs.getD k (0, 0, 0) = (s1, s2, s3) := ⟨_, _, _, rfl⟩
      rw [drop_get xs k hlt, hs] at hr
      rw [hs] at hc0 hc1 hc2
      simp only at hc0 hc1 hc2
      rw [← add_add, cell_off _ (by decide)] at hc1 hc2
      obtain ⟨hst, hsame, hrest⟩ := hr
      unfold okStep at hst
      simp only at hst hsame hrest
      rw [HN.out.2.2.1] at hst
      obtain ⟨ln, rfl⟩ : ∃ ln : Nat, s1 = (ln : Int) := ⟨s1.toNat, by omega⟩
      obtain ⟨mn, rfl⟩ : ∃ mn : Nat, s2 = (mn : Int) := ⟨s2.toNat, by omega⟩
      obtain ⟨on, rfl⟩ : ∃ on : Nat, s3 = (on : Int) := ⟨s3.toNat, by omega⟩
      simp only [Int.toNat_natCast] at hsame hrest
      obtain ⟨i1, i2, i3, i4, i5, i6, i7, i8⟩ := hst
      have HRS := Aside0.mk hrest
      have hsz : X.size = n := HN.out.1
      obtain ⟨p, hp⟩ : ∃ p, a + ln = p := ⟨_, rfl⟩
      obtain ⟨q, hq⟩ : ∃ q, p - on = q := ⟨_, rfl⟩
      have hes := ext_same X p on mn (by omega) (by omega) (by rw [← hp]; exact hsame)
      rw [hq] at hes
      have hpi : (a : Int) + (ln : Int) = (p : Int) := by omega
      have e1 : decide ((ln : Int) < 0) = false := decide_eq_false (by omega)
      have e2 : ¬ (n : Int) - (a : Int) < (ln : Int) := by omega
      have e3 : decide ((mn : Int) < 3) = false := decide_eq_false (by omega)
      have e4 : ¬ (n : Int) - (p : Int) < (mn : Int) := by omega
      have e5 : decide ((on : Int) < 1) = false := decide_eq_false (by omega)
      have e6 : ¬ (p : Int) < (on : Int) := by omega
      have e7 : decide (p < on) = false := decide_eq_false (by omega)
      have hw1 : IntKind.i64.wrap ((p : Int) - (on : Int)) = (q : Int) := by rw [IntKind.wrap_i64]; omega
      have hw2 : IntKind.i64.wrap ((q : Int) + (mn : Int)) = ((q + mn : Nat) : Int) := by rw [IntKind.wrap_i64]; omega
      have hw3 : IntKind.i64.wrap ((p : Int) + (mn : Int)) = ((p + mn : Nat) : Int) := by rw [IntKind.wrap_i64]; omega
      have hl1 : q + mn ≤ n := by omega
      have hl2 : p + mn ≤ n := by omega
      have hm1 : min (q + mn) n = q + mn := by omega
      have hm2 : min (p + mn) n = p + mn := by omega
      have HPQ := Aside0.mk (And.intro hp hq)
      clear hsame hrest hs hp hq
      go_wp2
      go_quiet (fail)
      clear hw1 hw2 hw3 hes hm1 hm2
      go_wp2
      go_roundg (gk - 1)
      case measure => have := HK.out; omega
      case rel => exact ⟨k + 1, p + mn, ⟨by have := HK.out; omega⟩, by go_num, by go_num, ⟨by rw [← HPQ.out.1]; exact HRS.out, by omega⟩, ⟨by first | exact pw_below_drewN (below_alloc HB.out _) _ | exact below_alloc HB.out _⟩⟩
    · go_wp2
      go_ret
      exact ⟨rfl, HB.out⟩
end Go.Proofs.Ytfkbbmcpjphbhaa
