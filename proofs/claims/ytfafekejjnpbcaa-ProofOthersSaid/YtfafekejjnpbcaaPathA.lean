/- The paths. -/
import Derived.Test.YtfafekejjnpbcaaProg
import Derived.Test.YtfafekejjnpbcaaVals
import Derived.Test.YtfafekejjnpbcaaWLast
import Derived.Test.YtfafekejjnpbcaaWMore
import Derived.RegionTactic
import Derived.ChangeAlike
import Derived.BigRegion
import Derived.WalkLawsBesides
import Derived.WalkSpells
import Derived.Deep.LoopGhost
import Derived.Deep.QuietTactic
import Derived.BigQuiet
import Derived.OwnWalk
import Derived.Test.YtfafekejjnpbcaaRootA
import Derived.StillTailTactics
namespace Go.Proofs.Ytfafekejjnpbcaa
open Go.RowKit Go.Proofs.YtfafekejjnpbcaaW.PrintWords Go.Proofs.YtfafekejjnpbcaaW.PrintLast Go.Proofs.YtfafekejjnpbcaaW.PrintMore Go.Proofs.Ytfafekejjnpbcaa.Fr
set_option linter.unusedVariables false
set_option linter.unusedSimpArgs false
attribute [local go_sem] max2_int min2_int max_two min_two

open Pl
theorem own_le {w : World} {B B' n sz : Nat} {e : TypeId} {v : Value} {xs : List Value} (h : w.ownsRow B e sz v n xs) (hB : B' ≤ B) : w.ownsRow B' e sz v n xs := by
  obtain ⟨h1, h2 | ⟨g, cap, cur, r0, hb, r⟩⟩ := h
  · exact ⟨h1, .inl h2⟩
  · exact ⟨h1, .inr ⟨g, cap, cur, r0, Nat.le_trans hB hb, r⟩⟩
theorem steps_le : ∀ (n i : Nat), i < n → steps n i + 1 ≤ n := by
  intro n
  induction n using Nat.strongRecOn with
  | _ n ih =>
    intro i hi
    by_cases h : 2 ≤ n
    · have h1 := half_lt h
      have h2 := half_pos n
      by_cases hc : i < half n
      · rw [steps_low h hc]; have := ih _ h1 i hc; omega
      · rw [steps_high h hc]; have := ih (n - half n) (by omega) (i - half n) (by omega); omega
    · rw [steps_one i (by omega)]; omega
/-- A path that a call answered. -/
def PathPost (xs : List Int) (w : World) (e : Ending) (w' : World) : Prop := ∃ v, e = .returned (.tuple #[v, .bool true]) ∧ w'.ownsRow w.heap.size 24 1 v xs.length (nums .u64 xs) ∧ Below w.heap.size w w'
set_option maxRecDepth 100000 in
set_option maxHeartbeats 1000000 in
theorem path_in : ∀ (n : Nat) (l : List ByteArray) (A : Option Addr) (c i : Nat) (w0 : World), l.length = n → n ≤ c → c ≤ 9223372036854775807 → n ≤ 100000 → i < n → RdS w0 A l → (∀ s ∈ l, s.size ≤ 140737488355328) → Calls Try.prog 10 #[.slice A n c, .int .i64 i] w0 (PathPost (path lf pr l i) w0) := by
  intro n
  induction n using Nat.strongRecOn with
  | _ n ih =>
    intro l A c i w0 hl hcap hc0 hn hi HR HS
    have hi2 : (i : Int) < (n : Int) := by omega
    have hi0 : (0 : Int) ≤ (i : Int) := by omega
    match n, l, hl with
    | 0, _, _ => omega
    | 1, l, hl =>
      rw [path_one lf pr l i (by omega)]
      clear ih HR HS
      go_enter Try.func10, Try.ntmps10
      go_wp2
      go_ret2
      exact ⟨.slice none 0 0, rfl, ⟨rfl, .inl ⟨rfl, rfl⟩⟩, Below.refl _ _⟩
    | n + 2, l, hl =>
      obtain ⟨m, hm⟩ : ∃ m, n + 2 = m := ⟨_, rfl⟩
      rw [hm] at ih hl hcap hn hi hi2
      rw [hm]
      have hm2 : 2 ≤ m := by omega
      clear hm n
      have HR := Aside0.mk HR
      have HS := Aside0.mk HS
      obtain ⟨ad, rfl, _⟩ := HR.out 0 (by omega)
      have HH : Aside0 (half m < m ∧ 0 < half m) := ⟨half_lt hm2, half_pos m⟩
      have HPL : Aside0 (i < half m → path lf pr l i = path lf pr (l.take (half m)) i ++ [root lf pr (l.drop (half m))]) := ⟨fun h => by rw [← hl]; exact path_low lf pr l i (by omega) (by rw [hl]; exact h)⟩
      have HPH : Aside0 (¬ i < half m → path lf pr l i = path lf pr (l.drop (half m)) (i - half m) ++ [root lf pr (l.take (half m))]) := ⟨fun h => by rw [← hl]; exact path_high lf pr l i (by omega) (by rw [hl]; exact h)⟩
      obtain ⟨h, hh⟩ : ∃ h, half m = h := ⟨_, rfl⟩
      rw [hh] at HH HPL HPH
      have HL := Aside0.mk hl
      have hh1 := HH.out.1
      have hh2 := HH.out.2
      have hb : ¬ (m : Int) = 1 := by omega
      have k1 : h ≤ c := by omega
      have k2 : h ≤ m := by omega
      have k3 : ¬ c = h := by omega
      go_enter Try.func10, Try.ntmps10
      go_wp2_with fail
      refine (half_any m hm2 (by omega) w0).mono ?_
      rintro e w1 ⟨rfl, rfl⟩
      rw [hh]
      clear hh
      by_cases hc : i < h
      · have hci : (i : Int) < (h : Int) := by omega
        go_wp2_with fail
        go_quiet (fail)
        go_wp2_with fail
        refine (ih h (by omega) (l.take h) (some ad) c i _ (by rw [List.length_take]; omega) (by omega) (by omega) (by omega) (by omega) ((HR.out.drewN _).take h) (fun s hs => HS.out s (List.mem_of_mem_take hs))).mono ?_
        rintro e w2 ⟨v2, rfl, hown, hbel⟩
        have HP := Aside0.mk (HPL.out hc)
        have hxl : (path lf pr (l.take h) i).length ≤ 100000 := by
          rw [path_length lf pr h (l.take h) i (by rw [List.length_take]; omega)]
          have := steps_le h i (by omega)
          omega
        obtain ⟨xs, hxs⟩ : ∃ xs, path lf pr (l.take h) i = xs := ⟨_, rfl⟩
        rw [hxs] at HP hown hxl
        clear hxs
        have HB2 : Aside0 (Below w1.heap.size w1 w2) := ⟨below_step (pw_below_drewN (Below.refl _ _) _) hbel⟩
        clear hbel
        obtain ⟨A2, c2, rfl, hc2, _⟩ := own_nums hown
        have HO2 := Aside0.mk hown
        clear hown hc2
        go_wp2_with fail
        refine (root_any (m - h) (l.drop h) (some (ad.add h)) (c - h) w2 (by rw [List.length_drop]; omega) (by omega) (by omega) (by omega) ((HR.out.below HB2.out).drop h) (fun s hs => HS.out s (List.mem_of_mem_drop hs))).mono ?_
        rintro e w3 ⟨rfl, hb3⟩
        have HW3 : Aside0 (w3.ownsRow w1.heap.size 24 1 (.slice A2 xs.length c2) xs.length (nums .u64 xs) ∧ Below w1.heap.size w1 w3) := ⟨pw_own_below (own_le HO2.out (Nat.le_refl _)) hb3, below_step HB2.out hb3⟩
        clear hb3
        have hw3 := HW3.out.2.size
        obtain ⟨y, hy⟩ : ∃ y, root lf pr (l.drop h) = y := ⟨_, rfl⟩
        rw [hy] at HP
        rw [hy]
        clear hy
        go_wp2_with ((with_reducible refine gate_dst (N := 53) rfl ?_); refine print_append_num (w0 := w3) w1.heap.size rfl (.tmp 49) (.tmp 52) 26 24 .u64 8 rfl Try.underlying26 info24 (by decide) (.slice A2 xs.length c2) xs y rfl rfl HW3.out.1 (Below.refl _ _) hw3 (by omega) ?_; intro v3 w4 hown4 hbel4 hgrow hat; have HW4 := Aside0.mk (And.intro hown4 hbel4); clear hown4 hbel4 hgrow hat)
        go_ret2
        rw [HP.out]
        exact ⟨v3, rfl, HW4.out.1, HW3.out.2.trans HW4.out.2⟩

      · have hci : ¬ (i : Int) < (h : Int) := by omega
        have hcj : (h : Int) ≤ (i : Int) := by omega
        go_wp2_with fail
        go_quiet (fail)
        go_wp2_with fail
        go_quiet (fail)
        go_wp2_with fail
        have hcast : (i : Int) - (h : Int) = ((i - h : Nat) : Int) := by omega
        simp only [hcast]
        clear hcast
        refine (ih (m - h) (by omega) (l.drop h) (some (ad.add h)) (c - h) (i - h) _ (by rw [List.length_drop]; omega) (by omega) (by omega) (by omega) (by omega) ((HR.out.drewN _).drop h) (fun s hs => HS.out s (List.mem_of_mem_drop hs))).mono ?_
        rintro e w2 ⟨v2, rfl, hown, hbel⟩
        have HP := Aside0.mk (HPH.out hc)
        have hxl : (path lf pr (l.drop h) (i - h)).length ≤ 100000 := by
          rw [path_length lf pr (m - h) (l.drop h) (i - h) (by rw [List.length_drop]; omega)]
          have := steps_le (m - h) (i - h) (by omega)
          omega
        obtain ⟨xs, hxs⟩ : ∃ xs, path lf pr (l.drop h) (i - h) = xs := ⟨_, rfl⟩
        rw [hxs] at HP hown hxl
        clear hxs
        have HB2 : Aside0 (Below w1.heap.size w1 w2) := ⟨below_step (pw_below_drewN (Below.refl _ _) _) hbel⟩
        clear hbel
        obtain ⟨A2, c2, rfl, hc2, _⟩ := own_nums hown
        have HO2 := Aside0.mk hown
        clear hown hc2
        go_wp2_with fail
        refine (root_any h (l.take h) (some ad) c w2 (by rw [List.length_take]; omega) (by omega) (by omega) (by omega) ((HR.out.below HB2.out).take h) (fun s hs => HS.out s (List.mem_of_mem_take hs))).mono ?_
        rintro e w3 ⟨rfl, hb3⟩
        have HW3 : Aside0 (w3.ownsRow w1.heap.size 24 1 (.slice A2 xs.length c2) xs.length (nums .u64 xs) ∧ Below w1.heap.size w1 w3) := ⟨pw_own_below (own_le HO2.out (Nat.le_refl _)) hb3, below_step HB2.out hb3⟩
        clear hb3
        have hw3 := HW3.out.2.size
        obtain ⟨y, hy⟩ : ∃ y, root lf pr (l.take h) = y := ⟨_, rfl⟩
        rw [hy] at HP
        rw [hy]
        clear hy
        go_wp2_with ((with_reducible refine gate_dst (N := 53) rfl ?_); refine print_append_num (w0 := w3) w1.heap.size rfl (.tmp 49) (.tmp 52) 26 24 .u64 8 rfl Try.underlying26 info24 (by decide) (.slice A2 xs.length c2) xs y rfl rfl HW3.out.1 (Below.refl _ _) hw3 (by omega) ?_; intro v3 w4 hown4 hbel4 hgrow hat; have HW4 := Aside0.mk (And.intro hown4 hbel4); clear hown4 hbel4 hgrow hat)
        go_ret2
        rw [HP.out]
        exact ⟨v3, rfl, HW4.out.1, HW3.out.2.trans HW4.out.2⟩

end Go.Proofs.Ytfafekejjnpbcaa
