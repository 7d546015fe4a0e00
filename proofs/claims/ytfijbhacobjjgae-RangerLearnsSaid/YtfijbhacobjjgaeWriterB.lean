/- The contracts of the cursor's writer: one byte; what was written. -/
import Derived.Test.YtfijbhacobjjgaeProg
import Derived.Test.YtfijbhacobjjgaeVals
import Derived.Test.YtfijbhacobjjgaeWLast
import Derived.Test.YtfijbhacobjjgaeWMore
import Derived.RegionTactic
import Derived.ChangeAlike
import Derived.BigRegion
import Derived.WalkLawsBesides
import Derived.WalkSpells
import Derived.Deep.LoopGhost
import Derived.Deep.QuietTactic
import Derived.BigQuiet
import Derived.OwnWalk
import Derived.Test.YtfijbhacobjjgaeDecB
namespace Go.Proofs.Ytfijbhacobjjgae
open Go.RowKit Go.Proofs.YtfijbhacobjjgaeW.PrintWords Go.Proofs.YtfijbhacobjjgaeW.PrintLast Go.Proofs.YtfijbhacobjjgaeW.PrintMore Go.Proofs.Ytfijbhacobjjgae.Fr
set_option linter.unusedVariables false
set_option linter.unusedSimpArgs false
attribute [local go_sem] max2_int min2_int max_two min_two

open Pl
section
variable {w w1 : World} {g B : Nat} {v : Value} {xs : List Int}
/-- A writer with what was written, in a row of its own from B on. -/
structure WR (w : World) (g B : Nat) (v : Value) (xs : List Int) : Prop where
  box : w.heap[g]? = some (.cells #[v] 56 (0, 0))
  row : w.ownsRow B 5 1 v xs.length (nums .u8 xs)
  lt : g < B
  le : B ≤ w.heap.size
theorem WR.ne (h : WR w g B v xs) : some g ≠ v.ownBlock := fun e => by
  have := own_blk h.row g e.symm
  have := h.lt
  omega
theorem WR.ch {S : Nat → Prop} (h : WR w g B v xs) (hc : Ch S w w1) (hg : ¬ S g) (hS : ∀ k, B ≤ k → ¬ S k) : WR w1 g B v xs := ⟨hc.blk h.box hg, hc.own h.row (fun k hk => hS k (own_blk h.row k hk)), h.lt, Nat.le_trans h.le hc.size⟩
theorem WR.below (h : WR w g B v xs) (hb : Below w.heap.size w w1) : WR w1 g B v xs := h.ch (S := fun _ => False) (Ch.of_below hb) (fun h => h) (fun _ _ h => h)
end
theorem w8 (x : Int) : IntKind.u8.wrap x = x % 256 := by simp [IntKind.wrap, IntKind.bits, IntKind.signed]
def WPost (g B : Nat) (xs : List Int) (w : World) (e : Ending) (w' : World) : Prop := e = .returned (.pointer (some ⟨g, 0, none⟩)) ∧ (∃ v, WR w' g B v xs) ∧ Ch (fun i => i = g ∨ B ≤ i) w w'
set_option maxRecDepth 100000 in
theorem put_one (g B : Nat) (v : Value) (xs : List Int) (a : Int) (h0 : 0 ≤ a) (h1 : a < 18446744073709551616) (w : World) (hX : WR w g B v xs) (hl : xs.length ≤ 1000000) : Calls Try.prog 28 #[.pointer (some ⟨g, 0, none⟩), .int .u64 a, .int .i64 1] w (WPost g B (xs ++ [a % 256]) w) := by
  have HX := Aside0.mk hX
  clear hX
  have h8 : IntKind.u8.wrap a = a % 256 := w8 a
  go_enter Try.func28, Try.ntmps28
  go_wp2_with fail
  refine (size_one w).mono ?_
  rintro e w1 ⟨rfl, rfl⟩
  go_wp2
  go_loopg [1, 11] 1 (fun gk x y wr => ∃ (k : Nat) (b : Int) (v : Value) (ys : List Int), Aside0 (k + gk = 1 ∧ (k = 0 → b = a ∧ ys = xs) ∧ (k = 1 → ys = xs ++ [a % 256])) ∧ x = .int .u64 b ∧ y = .int .i64 k ∧ Aside0 (WR wr g B v ys ∧ Ch (fun i => i = g ∨ B ≤ i) w1 wr))
  case atStart => exact ⟨0, a, v, xs, ⟨by omega, fun _ => ⟨rfl, rfl⟩, fun h => by omega⟩, rfl, rfl, ⟨HX.out, Ch.refl _ _⟩⟩
  case round =>
    clear HX
    obtain ⟨k, b, v, ys, HK, rfl, rfl, HX⟩ := hrel
    by_cases hlt : k < 1
    · obtain rfl : k = 0 := by omega
      obtain ⟨rfl, rfl⟩ := HK.out.2.1 rfl
      have c0 : wr.cell? ⟨g, 0, none⟩ = some v := (blk_cell HX.out.1.box 0).trans rfl
      have hgl := blk_lt HX.out.1.box
      have hBl := HX.out.1.le
      go_wp2_with ((with_reducible refine gate_dst (N := 21) rfl ?_); refine print_append_num (w0 := wr) B rfl (.tmp 17) (.tmp 20) 36 5 .u8 1 rfl Try.underlying36 info5 (by decide) v ys (b % 256) rfl rfl HX.out.1.row (Below.refl _ _) (by omega) (by omega) ?_; intro v1 w1 hown hbel hgrow hat; obtain ⟨A1, c1, rfl, hc1, hr1⟩ := own_nums hown; have HW := Aside0.mk (And.intro hown (And.intro hbel hgrow)); have HK2 := Aside0.mk (blk_grown HX.out.1.box hgrow HX.out.1.ne); have k1 : w1.cell? ⟨g, 0, none⟩ = some v := (blk_cell HK2.out 0).trans rfl; have f1 := blk_frozen HK2.out 0; clear hown hbel hgrow hat hc1 hr1)
      go_roundg 0
      case measure => have := HK.out; omega
      case rel =>
        have hne : some g ≠ (Value.slice A1 (ys ++ [b % 256]).length c1).ownBlock := by
          intro e
          have := own_blk HW.out.1 g e.symm
          have := HX.out.1.lt
          omega
        exact ⟨1, b / 256, .slice A1 (ys ++ [b % 256]).length c1, ys ++ [b % 256], ⟨rfl, fun h => by omega, fun _ => rfl⟩, rfl, by go_num, ⟨⟨blk_put HK2.out 0 _ (by simp), own_setCell HW.out.1 hne _, HX.out.1.lt, by have := HW.out.2.1.size; simp [World.setCell]; omega⟩, (HX.out.2.trans (Ch.grown HW.out.2.2 (fun k hk => Or.inr (own_blk HX.out.1.row k hk)))).set (Or.inl rfl)⟩⟩
    · have hk : k = 1 := by have := HK.out.1; omega
      subst hk
      obtain rfl := HK.out.2.2 rfl
      go_wp2
      go_ret
      exact ⟨rfl, ⟨v, HX.out.1⟩, HX.out.2⟩
theorem string_any (g B : Nat) (v : Value) (xs : List Int) (w : World) (HX : WR w g B v xs) : Calls Try.prog 29 #[.pointer (some ⟨g, 0, none⟩)] w fun e w' => e = .returned (.string (strOfNums xs)) ∧ w' = w := by
  have c0 : w.cell? ⟨g, 0, none⟩ = some v := (blk_cell HX.box 0).trans rfl
  have HC : Aside0 ((convert 36 9 v).run Try.prog w = .ok (.string (strOfNums xs)) w) := ⟨own_string Try.underlying36 Try.underlying5 Try.underlying9 HX.row⟩
  go_enter Try.func29, Try.ntmps29
  go_wp2
  rw [HC.out]
  go_wp2
  go_ret
  exact ⟨rfl, rfl⟩
end Go.Proofs.Ytfijbhacobjjgae
