/- The contracts of the ends. -/
import Derived.Test.YtfijbhacobjjgaeProg
import Derived.Test.YtfijbhacobjjgaeVals
import Derived.Test.YtfijbhacobjjgaeWLast
import Derived.Test.YtfijbhacobjjgaeWMore
import Derived.RegionTactic
import Derived.ChangeAlike
import Derived.BigRegion
import Derived.WalkLawsBesides
import Derived.WalkSpells
import Derived.Deep.LoopGhost
import Derived.Deep.QuietTactic
import Derived.BigQuiet
import Derived.OwnWalk
import Derived.Test.YtfijbhacobjjgaeLaw47
import Derived.Test.YtfijbhacobjjgaeNums
import Derived.Laws.BitsLemmas
namespace Go.Proofs.Ytfijbhacobjjgae
open Go.RowKit Go.Proofs.YtfijbhacobjjgaeW.PrintWords Go.Proofs.YtfijbhacobjjgaeW.PrintLast Go.Proofs.YtfijbhacobjjgaeW.PrintMore Go.Proofs.Ytfijbhacobjjgae.Fr
set_option linter.unusedVariables false
set_option linter.unusedSimpArgs false
attribute [local go_sem] max2_int min2_int max_two min_two

open Pl
theorem or32 {x y : Int} (h0 : 0 ≤ x) (hm : x % 256 = 0) (h1 : x < 4294967296) (h2 : 0 ≤ y) (h3 : y < 256) : bits .or .u32 x y = x + y :=
  bits_join .u32 32 (by decide) (fun n a b => by rw [IntKind.wrap_u32]; have : (2 : Int) ^ 32 = 4294967296 := by decide
                                                 omega) 8 x y h0 hm h1 h2 h3 (by have : (2 : Int) ^ 32 = 4294967296 := by decide
                                                                                 omega)
theorem w32 (x : Int) : IntKind.u32.wrap x = x % 4294967296 := IntKind.wrap_u32 x
theorem middle_any (l h p : Int) (h0 : 0 ≤ l) (h1 : l < h) (h2 : h < 4294967296) (p0 : 1 ≤ p) (p1 : p ≤ 4095) (w : World) : Calls Try.prog 25 #[.agg #[.int .u32 l, .int .u32 h], .int .i64 p] w fun e w' => e = .returned (.int .u32 (mid l h p)) ∧ Below w.heap.size w w' := by
  have hm := mid_in h1 p0 p1
  have hq : 0 ≤ (h - l) / 4096 * p := Int.mul_nonneg (by omega) (by omega)
  have HE : Aside0 ((l + (h - l) / 4096 * p % 4294967296) % 4294967296 = mid l h p) := ⟨by unfold mid at hm ⊢; omega⟩
  clear hm hq
  go_enter Try.func25, Try.ntmps25
  go_wp2
  go_ret
  exact ⟨congrArg (fun x => Ending.returned (Value.int .u32 x)) HE.out, below_alloc (Below.refl _ _) _⟩
theorem cut_any (l h m : Int) (b : Bool) (hm : b = false → 0 ≤ m ∧ m < 4294967295) (w : World) : Calls Try.prog 24 #[.agg #[.int .u32 l, .int .u32 h], .int .u32 m, .bool b] w fun e w' => e = .returned (.agg #[.int .u32 (if b then l else m + 1), .int .u32 (if b then m else h)]) ∧ Below w.heap.size w w' := by
  go_enter Try.func24, Try.ntmps24
  cases b
  · have h1 : (m + 1) % 4294967296 = m + 1 := by have := hm rfl; omega
    clear hm
    simp only [Bool.false_eq_true, if_false]
    go_wp2
    exact bodyPost_ret (v := .agg #[.int .u32 (m + 1), .int .u32 h]) (by simp [results, Try.results24, go_sem]) rfl ⟨rfl, below_alloc (below_alloc (Below.refl _ _) _) _⟩
  · clear hm
    simp only [if_true]
    go_wp2
    exact bodyPost_ret (v := .agg #[.int .u32 l, .int .u32 m]) (by simp [results, Try.results24, go_sem]) rfl ⟨rfl, below_alloc (below_alloc (Below.refl _ _) _) _⟩
theorem alike_any (l h : Int) (w : World) : Calls Try.prog 26 #[.agg #[.int .u32 l, .int .u32 h]] w fun e w' => e = .returned (.bool (l / 16777216 == h / 16777216)) ∧ Below w.heap.size w w' := by
  go_enter Try.func26, Try.ntmps26
  go_wp2
  go_ret
  exact ⟨rfl, below_alloc (Below.refl _ _) _⟩
theorem moved_any (l h : Int) (h0 : 0 ≤ l) (h1 : l < 4294967296) (h2 : 0 ≤ h) (h3 : h < 4294967296) (w : World) : Calls Try.prog 27 #[.agg #[.int .u32 l, .int .u32 h]] w fun e w' => e = .returned (.agg #[.int .u32 (l % 16777216 * 256), .int .u32 (h % 16777216 * 256 + 255)]) ∧ Below w.heap.size w w' := by
  have e1 : l * 256 % 4294967296 = l % 16777216 * 256 := by omega
  have e2 : bits .or .u32 (h * 256 % 4294967296) 255 = h % 16777216 * 256 + 255 := by rw [or32 (by omega) (by omega) (by omega) (by decide) (by decide)]; omega
  have HE := Aside0.mk (And.intro e1 e2)
  clear e1 e2
  go_enter Try.func27, Try.ntmps27
  go_wp2
  rw [HE.out.1, HE.out.2]
  exact bodyPost_ret (v := .agg #[.int .u32 (l % 16777216 * 256), .int .u32 (h % 16777216 * 256 + 255)]) (by simp [results, Try.results27, go_sem]) rfl ⟨rfl, below_alloc (below_alloc (Below.refl _ _) _) _⟩
theorem next_any (n : Nat) (b : Bool) (hn : n < 1000000) (w : World) : Calls Try.prog 20 #[.int .i64 n, .bool b] w fun e w' => e = .returned (.int .i64 (nx n b : Nat)) ∧ w' = w := by
  have e1 : IntKind.i64.wrap (2 * (n : Int)) = ((2 * n : Nat) : Int) := by rw [IntKind.wrap_i64]; omega
  have e2 : IntKind.i64.wrap (((2 * n : Nat) : Int) + 1) = ((2 * n + 1 : Nat) : Int) := by rw [IntKind.wrap_i64]; omega
  go_enter Try.func20, Try.ntmps20
  cases b
  · go_wp2
    go_ret
    exact ⟨congrArg (fun x => Ending.returned (Value.int .i64 x)) (by show _ = ((2 * n : Nat) : Int); omega), rfl⟩
  · go_wp2
    go_ret
    exact ⟨congrArg (fun x => Ending.returned (Value.int .i64 x)) (by show _ = ((2 * n + 1 : Nat) : Int); omega), rfl⟩
theorem in_yes (g : Nat) (n : Int) (h1 : 1 ≤ n) (h2 : n < 256) (w : World) : Calls Try.prog 31 #[.pointer (some ⟨g, 0, none⟩), .int .i64 n] w fun e w' => e = .returned (.bool true) ∧ w' = w := by
  go_enter Try.func31, Try.ntmps31
  have d1 : ¬ n < 1 := by omega
  go_wp2
  go_ret
  exact ⟨rfl, rfl⟩
theorem in_no (A : Option Addr) (n : Int) (hA : A = none ∨ ∃ g, A = some ⟨g, 0, none⟩) (h : ¬ (1 ≤ n ∧ n < 256) ∨ A = none) (w : World) : Calls Try.prog 31 #[.pointer A, .int .i64 n] w fun e w' => e = .returned (.bool false) ∧ w' = w := by
  go_enter Try.func31, Try.ntmps31
  rcases hA with rfl | ⟨g, rfl⟩
  · clear h
    go_wp2
    go_ret
    exact ⟨rfl, rfl⟩
  · by_cases h1 : n < 1
    · clear h
      go_wp2
      go_ret
      exact ⟨rfl, rfl⟩
    · have h2 : ¬ n < 256 := by
        rcases h with h | h
        · omega
        · cases h
      clear h
      go_wp2
      go_ret
      exact ⟨rfl, rfl⟩
end Go.Proofs.Ytfijbhacobjjgae
