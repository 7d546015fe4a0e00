/- A full schedule takes no more; the two Delays are one. -/
import Derived.Test.YtfijbhacobjjgagDelayB
namespace Go.Proofs.Ytfijbhacobjjgag
open Go.RowKit Go.Proofs.YtfijbhacobjjgagW.PrintWords Go.Proofs.YtfijbhacobjjgagW.PrintLast Go.Proofs.YtfijbhacobjjgagW.PrintMore Go.Proofs.Ytfijbhacobjjgag.Fr
set_option linter.unusedVariables false
set_option linter.unusedSimpArgs false
attribute [local go_sem] max2_int min2_int max_two min_two

open Pl Hp
theorem put_full {B s : Nat} {v : Value} {now ord : Int} {l : List E} (n : Int) (a : Ac) (w : World) (h : SC B w s v now ord l) (hl : 1000 ≤ l.length) : Calls Try.prog 8 #[.pointer (some ⟨s, 0, none⟩), .int .i64 n, actV a] w fun e w' => e = .returned (.bool false) ∧ Below w.heap.size w w' := by
  have hal : Below w.heap.size w (w.alloc (.cells #[.int .i64 a.k, .int .i64 a.nd, .int .i64 a.n, .bool a.up, .string a.s] 28)) := below_alloc (Below.refl _ _) _
  obtain ⟨A, c, rfl, _⟩ := h.slice
  have c0 : w.cell? ⟨s, 0, none⟩ = some (.slice A l.length c) := (blk_cell h.box 0).trans rfl
  have hslt := blk_lt h.box
  have hll : (1000 : Int) ≤ l.length := by omega
  clear h
  unfold actV
  go_enter Try.func8, Try.ntmps8
  go_wp2
  go_ret
  exact ⟨rfl, hal⟩
theorem delays (b n : Int) : brI (dl (brI b 1 1000) (brI n 0 20).toNat) 1 100000 = min (brI b 1 1000 * 2 ^ (brI n 0 20).toNat) 100000 := by
  have hd : 1 ≤ brI b 1 1000 := by unfold brI; omega
  have h := dl_min (brI n 0 20).toNat (brI b 1 1000) hd
  have hp : (0 : Int) < 2 ^ (brI n 0 20).toNat := Int.pow_pos (by decide)
  have hm : (1 : Int) * 1 ≤ brI b 1 1000 * 2 ^ (brI n 0 20).toNat := Int.mul_le_mul hd (by omega) (by decide) (by omega)
  rw [← h]
  generalize dl (brI b 1 1000) (brI n 0 20).toNat = x at h ⊢
  generalize brI b 1 1000 * 2 ^ (brI n 0 20).toNat = y at h hm
  unfold brI
  omega
end Go.Proofs.Ytfijbhacobjjgag
