/- What the laws ask first: small lists; four records. -/
import Derived.Test.YtfijbhacobjjgafProg
import Derived.Test.YtfijbhacobjjgafVals
import Derived.Test.YtfijbhacobjjgafWLast
import Derived.Test.YtfijbhacobjjgafWMore
import Derived.RegionTactic
import Derived.ChangeAlike
import Derived.BigRegion
import Derived.WalkLawsBesides
import Derived.WalkSpells
import Derived.Deep.LoopGhost
import Derived.Deep.QuietTactic
import Derived.BigQuiet
import Derived.OwnWalk
import Derived.Test.YtfijbhacobjjgafRefJoinA
namespace Go.Proofs.Ytfijbhacobjjgaf
open Go.RowKit Go.Proofs.YtfijbhacobjjgafW.PrintWords Go.Proofs.YtfijbhacobjjgafW.PrintLast Go.Proofs.YtfijbhacobjjgafW.PrintMore Go.Proofs.Ytfijbhacobjjgaf.Fr
set_option linter.unusedVariables false
set_option linter.unusedSimpArgs false
attribute [local go_sem] max2_int min2_int max_two min_two

open Pl
def smallB (l : List ByteArray) : Bool := decide (l.length ≤ 60 ∧ ∀ s ∈ l, s.size ≤ 30)
def SmPost (b : Bool) (w : World) (e : Ending) (w' : World) : Prop := e = .returned (.bool b) ∧ w' = w
set_option maxRecDepth 100000 in
theorem small_any (A : Option Addr) (n c : Nat) (l : List ByteArray) (hl : l.length = n) (hn : n ≤ 9223372036854775807) (w : World) (hR : RdS w A l) (hS : ∀ s ∈ l, s.size ≤ 140737488351232) : Calls Try.prog 7 #[.slice A n c] w (SmPost (smallB l) w) := by
  unfold SmPost
  by_cases h60 : 60 < n
  · have hb : smallB l = false := decide_eq_false (fun h => by omega)
    rw [hb]
    have h1 : (60 : Int) < n := by omega
    go_enter Try.func7, Try.ntmps7
    go_wp2
    go_ret
    exact ⟨rfl, rfl⟩
  have h1 : ¬ (60 : Int) < n := by omega
  have HR := Aside0.mk hR
  have HL := Aside0.mk hl
  have HS := Aside0.mk hS
  have HI0 : Aside0 (∀ i, i < 0 → (l.getD i ByteArray.empty).size ≤ 30) := ⟨fun i hi => by omega⟩
  clear hR hl hS
  go_enter Try.func7, Try.ntmps7
  go_wp2
  go_loopg [10] n (fun gk x wr => ∃ k : Nat, x = .int .i64 k ∧ Aside0 (k + gk = n) ∧ Aside0 (∀ i, i < k → (l.getD i ByteArray.empty).size ≤ 30) ∧ wr = w)
  case atStart => exact ⟨0, rfl, ⟨Nat.zero_add _⟩, HI0, rfl⟩
  case round =>
    clear HI0
    obtain ⟨k, rfl, HK, HI, rfl⟩ := hrel
    by_cases hlt : k < n
    · obtain ⟨ad, rfl, hc⟩ := HR.out k (by have := HL.out; omega)
      obtain ⟨s, hs⟩ : ∃ s, l.getD k ByteArray.empty = s := ⟨_, rfl⟩
      have hmem : s ∈ l := by
        rw [← hs, List.getD_eq_getElem?_getD, List.getElem?_eq_getElem (by have := HL.out; omega)]
        exact List.getElem_mem _
      have hsz := HS.out s hmem
      have HSE := Aside0.mk hs
      rw [hs] at hc
      have hki : (k : Int) < n := by omega
      by_cases h30 : s.size ≤ 30
      · have h3 : ¬ (30 : Int) < s.size := by omega
        clear hs hmem
        go_wp2
        go_roundg (gk - 1)
        case measure => have := HK.out; omega
        case rel => exact ⟨k + 1, by go_num, ⟨by have := HK.out; omega⟩, ⟨fun i hi => by
          rcases Nat.lt_or_ge i k with h | h
          · exact HI.out i h
          · obtain rfl : i = k := by omega
            rw [HSE.out]; exact h30⟩, rfl⟩
      · have h3 : (30 : Int) < s.size := by omega
        have HB : Aside0 (smallB l = false) := ⟨decide_eq_false (fun h => h30 (h.2 s hmem))⟩
        clear hs hmem
        go_wp2
        go_ret
        rw [HB.out]
        exact ⟨rfl, rfl⟩
    · have hk : k = n := by have := HK.out; omega
      subst hk
      have HB : Aside0 (smallB l = true) := ⟨decide_eq_true ⟨by have := HL.out; omega, fun s hs => by
        obtain ⟨i, hi, he⟩ := List.mem_iff_getElem.1 hs
        have := HI.out i (by have := HL.out; omega)
        rwa [List.getD_eq_getElem?_getD, List.getElem?_eq_getElem hi, he] at this⟩⟩
      have hki : ¬ (k : Int) < k := by omega
      go_wp2
      go_ret
      rw [HB.out]
      exact ⟨rfl, rfl⟩
def sa : ByteArray := ⟨#[97]⟩
def sb : ByteArray := ⟨#[98]⟩
def sc : ByteArray := ⟨#[99]⟩
def sd : ByteArray := ⟨#[100]⟩
def sx : ByteArray := ⟨#[120]⟩
theorem ne1 : lf sc ≠ lf sx := by decide +kernel
theorem ne2 : pr (lf sc) (lf sd) ≠ pr (lf sx) (lf sd) := by decide +kernel
theorem ne3 : pr (pr (lf sa) (lf sb)) (pr (lf sc) (lf sd)) ≠ pr (pr (lf sa) (lf sb)) (pr (lf sx) (lf sd)) := by decide +kernel
theorem half4 : half 4 = 2 := by decide
theorem half2 : half 2 = 1 := by decide
theorem root2 (x y : ByteArray) : root lf pr [x, y] = pr (lf x) (lf y) := by
  have h := root_two lf pr [x, y] (by simp)
  rw [show ([x, y] : List ByteArray).length = 2 from rfl, half2] at h
  rw [h]
  simp only [List.take_succ_cons, List.take_zero, List.drop_succ_cons, List.drop_zero, root_one]
theorem root4 (x y z u : ByteArray) : root lf pr [x, y, z, u] = pr (pr (lf x) (lf y)) (pr (lf z) (lf u)) := by
  have h := root_two lf pr [x, y, z, u] (by simp)
  rw [show ([x, y, z, u] : List ByteArray).length = 4 from rfl, half4] at h
  rw [h]
  simp only [List.take_succ_cons, List.take_zero, List.drop_succ_cons, List.drop_zero, root2]
theorem fnd4 : fnd lf pr [sa, sb, sc, sd] [sa, sb, sx, sd] 4 0 = ([2], 5) := by
  have e1 : ∀ (l : List ByteArray), l.length = 4 → sub l 0 4 = l := fun l h => by unfold sub; rw [List.drop_zero, List.take_of_length_le (by omega)]
  rw [fnd_two lf pr (by rw [e1 _ rfl, e1 _ rfl, root4, root4]; exact ne3) (by decide), half4]
  have f1 : fnd lf pr [sa, sb, sc, sd] [sa, sb, sx, sd] 2 0 = ([], 1) := fnd_same lf pr rfl
  have f2 : fnd lf pr [sa, sb, sc, sd] [sa, sb, sx, sd] 2 2 = ([2], 3) := by
    have s1 : sub [sa, sb, sc, sd] 2 2 = [sc, sd] := rfl
    have s2 : sub [sa, sb, sx, sd] 2 2 = [sx, sd] := rfl
    rw [fnd_two lf pr (by rw [s1, s2, root2, root2]; exact ne2) (by decide), half2]
    have g1 : fnd lf pr [sa, sb, sc, sd] [sa, sb, sx, sd] 1 2 = ([2], 1) := by
      have s1 : sub [sa, sb, sc, sd] 2 1 = [sc] := rfl
      have s2 : sub [sa, sb, sx, sd] 2 1 = [sx] := rfl
      exact fnd_one lf pr (by rw [s1, s2, root_one, root_one]; exact ne1) (by decide)
    have g2 : fnd lf pr [sa, sb, sc, sd] [sa, sb, sx, sd] 1 3 = ([], 1) := fnd_same lf pr rfl
    show (_ ++ _, _) = _
    rw [g1, show 2 - 1 = 1 from rfl, show 2 + 1 = 3 from rfl, g2]
    rfl
  show (_ ++ _, _) = _
  rw [f1, show 4 - 2 = 2 from rfl, show 0 + 2 = 2 from rfl, f2]
  rfl
end Go.Proofs.Ytfijbhacobjjgaf
