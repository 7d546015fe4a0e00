/- The contracts of New, of the document's New; of Chance. -/
import Derived.Test.YtfijbhacobjjgaeProg
import Derived.Test.YtfijbhacobjjgaeVals
import Derived.Test.YtfijbhacobjjgaeWLast
import Derived.Test.YtfijbhacobjjgaeWMore
import Derived.RegionTactic
import Derived.ChangeAlike
import Derived.BigRegion
import Derived.WalkLawsBesides
import Derived.WalkSpells
import Derived.Deep.LoopGhost
import Derived.Deep.QuietTactic
import Derived.BigQuiet
import Derived.OwnWalk
import Derived.Test.YtfijbhacobjjgaeEndsA
namespace Go.Proofs.Ytfijbhacobjjgae
open Go.RowKit Go.Proofs.YtfijbhacobjjgaeW.PrintWords Go.Proofs.YtfijbhacobjjgaeW.PrintLast Go.Proofs.YtfijbhacobjjgaeW.PrintMore Go.Proofs.Ytfijbhacobjjgae.Fr
set_option linter.unusedVariables false
set_option linter.unusedSimpArgs false
attribute [local go_sem] max2_int min2_int max_two min_two

open Pl
def z256 : List Int := List.replicate 256 0
set_option maxRecDepth 100000 in
theorem zeroM : ∀ w, (zeroValue 66).run Try.prog w = .ok (.agg (vals (Value.int .i64) z256)) w := fun w => by
  have : (Try.prog.info? 66).bind (·.zero) = some (.agg (vals (Value.int .i64) z256)) := by kernel_rfl
  rfl
def coder (l h : Int) (c : List Int) : List Value := .int .u64 l :: .int .u64 h :: c.map (Value.int .i64)
set_option maxRecDepth 100000 in
theorem zeroR : ∀ w, (zeroValue 41).run Try.prog w = .ok (.agg (vals id (coder 0 0 z256))) w := fun w => by
  have : (Try.prog.info? 41).bind (·.zero) = some (.agg (vals id (coder 0 0 z256))) := by kernel_rfl
  rfl
theorem coder_low (l h : Int) (c : List Int) (x : Int) : (coder l h c).set 0 (.int .u64 x) = coder x h c := rfl
theorem coder_high (l h : Int) (c : List Int) (x : Int) : (coder l h c).set 1 (.int .u64 x) = coder l x c := rfl
theorem coder_set (l h : Int) (c : List Int) (n : Nat) (x : Int) : (coder l h c).set (2 + n) (.int .i64 x) = coder l h (c.set n x) := by
  rw [Nat.add_comm]
  simp [coder, List.map_set]
theorem coder_get (l h : Int) (c : List Int) (n : Nat) (hn : n < c.length) : (coder l h c).getD (2 + n) undef = .int .i64 (c.getD n 0) := by
  rw [Nat.add_comm]
  simp [coder, List.getD_eq_getElem?_getD, hn]
theorem coder_len (l h : Int) (c : List Int) : (coder l h c).length = c.length + 2 := by simp [coder]
def fz (k : Nat) : List Int := List.replicate k 2048 ++ List.replicate (256 - k) 0
theorem fz_len (k : Nat) (hk : k ≤ 256) : (fz k).length = 256 := by simp [fz]; omega
theorem fz_zero : fz 0 = z256 := rfl
theorem fz_all : fz 256 = c0.c := by
  show List.replicate 256 2048 ++ List.replicate 0 0 = List.replicate 256 2048
  exact List.append_nil _
theorem fz_set (k : Nat) (hk : k < 256) : (fz k).set k 2048 = fz (k + 1) := by
  unfold fz
  rw [List.set_append_right _ _ (by simp), List.length_replicate, Nat.sub_self]
  obtain ⟨m, hm⟩ : ∃ m, 256 - k = m + 1 := ⟨255 - k, by omega⟩
  rw [hm, show 256 - (k + 1) = m by omega, List.replicate_succ, List.set_cons_zero, List.replicate_succ', List.append_assoc]
  rfl
def NewPost (t : TypeId) (α : Type) (enc : α → Value) (l : List α) (w0 : World) (e : Ending) (w' : World) : Prop := ∃ g, e = .returned (.pointer (some ⟨g, 0, none⟩)) ∧ w0.heap.size ≤ g ∧ Blk w' g t enc l ∧ Below w0.heap.size w0 w'
section
attribute [local go_sem high] zeroM zeroR
set_option maxRecDepth 100000 in
theorem new_any (w0 : World) : Calls Try.prog 12 #[] w0 (NewPost 66 Int (Value.int .i64) c0.c w0) := by
  have HA : Aside0 (∀ w, (zeroValue 66).run Try.prog w = .ok (.agg (vals (Value.int .i64) (fz 0))) w) := ⟨by rw [fz_zero]; exact zeroM⟩
  go_enter Try.func12, Try.ntmps12
  go_wp2
  have HB0 : Aside0 (Blk (w0.alloc (.cells (vals (Value.int .i64) z256) 66)) w0.heap.size 66 (Value.int .i64) z256 ∧ Below w0.heap.size w0 (w0.alloc (.cells (vals (Value.int .i64) z256) 66))) := ⟨Blk.lit _ _ _ _, below_alloc (Below.refl _ _) _⟩
  rw [← fz_zero] at HB0
  go_loopg [5] 256 (fun gk x wr => ∃ k : Nat, Aside0 (k + gk = 256) ∧ x = .int .i64 k ∧ Aside0 (Blk wr w0.heap.size 66 (Value.int .i64) (fz k) ∧ Below w0.heap.size w0 wr))
  case atStart => exact ⟨0, ⟨by omega⟩, rfl, HB0⟩
  case round =>
    clear HB0
    obtain ⟨k, HK, rfl, HI⟩ := hrel
    by_cases hlt : k < 256
    · have c0 := HI.out.1.cell k 0 (by rw [fz_len k (by omega)]; exact hlt)
      have f0 := HI.out.1.free k
      have h1 : (k : Int) < 256 := by omega
      have hlt2 := HI.out.1.lt
      go_wp2
      go_roundg (gk - 1)
      case measure => have := HK.out; omega
      case rel => exact ⟨k + 1, ⟨by have := HK.out; omega⟩, by go_num, ⟨by rw [← fz_set k hlt]; exact HI.out.1.put k 2048, HI.out.2.setCell (Nat.le_refl _) _⟩⟩
    · have hk : k = 256 := by have := HK.out; omega
      subst hk
      go_wp2
      go_ret
      exact ⟨_, rfl, Nat.le_refl _, by rw [← fz_all]; exact HI.out.1, HI.out.2⟩
set_option maxRecDepth 100000 in
theorem rnew_any (w0 : World) : Calls Try.prog 13 #[] w0 (NewPost 41 Value id (coder 0 4294967295 c0.c) w0) := by
  have hs : ¬ (vals id (coder 0 0 z256)).size < 2 := by rw [vals_size, coder_len]; omega
  have hv : (vals id (coder 0 0 z256)).setIfInBounds 1 (.int .u64 4294967295) = vals id (coder 0 4294967295 z256) := vals_set id _ 1 _
  go_enter Try.func13, Try.ntmps13
  go_wp2
  have HB0 : Aside0 (Blk (w0.alloc (.cells (vals id (coder 0 4294967295 z256)) 41)) w0.heap.size 41 id (coder 0 4294967295 z256) ∧ Below w0.heap.size w0 (w0.alloc (.cells (vals id (coder 0 4294967295 z256)) 41))) := ⟨Blk.lit _ _ _ _, below_alloc (Below.refl _ _) _⟩
  rw [← fz_zero] at HB0
  go_loopg [2] 256 (fun gk x wr => ∃ k : Nat, Aside0 (k + gk = 256) ∧ x = .int .i64 k ∧ Aside0 (Blk wr w0.heap.size 41 id (coder 0 4294967295 (fz k)) ∧ Below w0.heap.size w0 wr))
  case atStart => exact ⟨0, ⟨by omega⟩, rfl, HB0⟩
  case round =>
    clear HB0
    obtain ⟨k, HK, rfl, HI⟩ := hrel
    by_cases hlt : k < 256
    · have hl := fz_len k (by omega)
      have c0 := HI.out.1.cell (2 + k) undef (by rw [coder_len, hl]; omega)
      rw [coder_get _ _ _ _ (by rw [hl]; exact hlt)] at c0
      have f0 := HI.out.1.free (2 + k)
      have h1 : (k : Int) < 256 := by omega
      have hlt2 := HI.out.1.lt
      go_wp2
      go_roundg (gk - 1)
      case measure => have := HK.out; omega
      case rel => exact ⟨k + 1, ⟨by have := HK.out; omega⟩, by go_num, ⟨by rw [← fz_set k hlt, ← coder_set]; exact HI.out.1.put (2 + k) (.int .i64 2048), HI.out.2.setCell (Nat.le_refl _) _⟩⟩
    · have hk : k = 256 := by have := HK.out; omega
      subst hk
      go_wp2
      go_ret
      exact ⟨_, rfl, Nat.le_refl _, by rw [← fz_all]; exact HI.out.1, HI.out.2⟩
end
theorem chance_yes (g n : Nat) (c : List Int) (h1 : 1 ≤ n) (h2 : n < 256) (w : World) (hB : Blk w g 66 (Value.int .i64) c) (hc : c.length = 256) : Calls Try.prog 16 #[.pointer (some ⟨g, 0, none⟩), .int .i64 n] w fun e w' => e = .returned (.int .i64 (c.getD n 0)) ∧ w' = w := by
  have HI := Aside0.mk (in_yes g n (by omega) (by omega) w)
  have c0 := hB.cell n 0 (by omega)
  obtain ⟨x, hx⟩ : ∃ x, c.getD n 0 = x := ⟨_, rfl⟩
  rw [hx] at c0 ⊢
  have hn0 : (0 : Int) ≤ n := by omega
  have hn1 : (n : Int) < 256 := by omega
  clear hx hB
  go_enter Try.func16, Try.ntmps16
  go_wp2_with fail
  refine HI.out.mono ?_
  rintro e w1 ⟨rfl, rfl⟩
  go_wp2
  go_ret
  exact ⟨rfl, rfl⟩
theorem chance_no (A : Option Addr) (n : Int) (hA : A = none ∨ ∃ g, A = some ⟨g, 0, none⟩) (h : ¬ (1 ≤ n ∧ n < 256) ∨ A = none) (w : World) : Calls Try.prog 16 #[.pointer A, .int .i64 n] w fun e w' => e = .returned (.int .i64 0) ∧ w' = w := by
  have HI := Aside0.mk (in_no A n hA h w)
  clear hA h
  go_enter Try.func16, Try.ntmps16
  go_wp2_with fail
  refine HI.out.mono ?_
  rintro e w1 ⟨rfl, rfl⟩
  go_wp2
  go_ret
  exact ⟨rfl, rfl⟩
theorem learn_no (A : Option Addr) (n : Int) (b : Bool) (hA : A = none ∨ ∃ g, A = some ⟨g, 0, none⟩) (h : ¬ (1 ≤ n ∧ n < 256) ∨ A = none) (w : World) : Calls Try.prog 14 #[.pointer A, .int .i64 n, .bool b] w fun e w' => e = .returned (.bool false) ∧ w' = w := by
  have HI := Aside0.mk (in_no A n hA h w)
  clear hA h
  go_enter Try.func14, Try.ntmps14
  go_wp2_with fail
  refine HI.out.mono ?_
  rintro e w1 ⟨rfl, rfl⟩
  go_wp2
  go_ret
  exact ⟨rfl, rfl⟩
end Go.Proofs.Ytfijbhacobjjgae
