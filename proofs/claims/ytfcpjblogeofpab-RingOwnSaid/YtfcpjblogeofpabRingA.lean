/- The contracts of ring's functions: New, at, Len, Bytes, Add, Clear, All: what each does to the ring's two blocks. -/
import Derived.Test.YtfcpjblogeofpabProg
import Derived.Test.YtfcpjblogeofpabFrame
import Derived.Test.YtfcpjblogeofpabWLast
import Derived.Test.YtfcpjblogeofpabWMore
import Derived.RegionTactic
import Derived.ChangeAlike
import Derived.BigRegion
import Derived.StillTailTactics
import Derived.WalkLawsBesides
import Derived.Deep.LoopGhost
import Derived.OwnWalk
namespace Go.Proofs.Ytfcpjblogeofpab
open Go.RowKit Go.Proofs.YtfcpjblogeofpabW.PrintWords Go.Proofs.YtfcpjblogeofpabW.PrintLast Go.Proofs.YtfcpjblogeofpabW.PrintMore Go.Proofs.Ytfcpjblogeofpab.Fr
set_option linter.unusedVariables false
set_option linter.unusedSimpArgs false

attribute [local go_sem] max2_int min2_int max_two min_two

/-- A ring: its places, which is the first, how many are there, how many bytes. -/
structure R where
  l : List ByteArray
  first : Nat
  n : Nat
  bytes : Int
def R.cells (r : R) (gl : Nat) : Array Value := #[.slice (some ⟨gl, 0, none⟩) r.l.length r.l.length, .int .i64 r.first, .int .i64 r.n, .int .i64 r.bytes]
def RingAt (w : World) (g gl : Nat) (r : R) : Prop := w.heap[g]? = some (.cells (r.cells gl) 36 (0, 0)) ∧ w.heap[gl]? = some (.cells (strs r.l) 9 (0, 0)) ∧ g ≠ gl
theorem RingAt.below {w w1 : World} {g gl : Nat} {r : R} (h : RingAt w g gl r) (hb : Below w.heap.size w w1) : RingAt w1 g gl r := ⟨blk_below h.1 hb, blk_below h.2.1 hb, h.2.2⟩
theorem RingAt.ch {S : Nat → Prop} {w w1 : World} {g gl : Nat} {r : R} (h : RingAt w g gl r) (hc : Ch S w w1) (h1 : ¬ S g) (h2 : ¬ S gl) : RingAt w1 g gl r := ⟨hc.blk h.1 h1, hc.blk h.2.1 h2, h.2.2⟩
structure R.ok (r : R) : Prop where
  pos : 0 < r.l.length
  cap : r.l.length ≤ 64
  first : r.first < r.l.length
  n : r.n ≤ r.l.length
  lo : 0 ≤ r.bytes
  hi : r.bytes ≤ 1000000000000000000
def newR (k : Nat) : R := ⟨List.replicate k ByteArray.empty, 0, 0, 0⟩
theorem newR_ok (k : Nat) (h0 : 0 < k) (h : k ≤ 64) : (newR k).ok := ⟨by simpa [newR] using h0, by simpa [newR] using h, by simpa [newR] using h0, by simp [newR], by simp [newR], by simp [newR]⟩

theorem info9 : (Try.prog.info? 9).map (fun i => (i.zero, i.size, i.bytes)) = some (some (.string ByteArray.empty), 1, 16) := by kernel_rfl
theorem make_strs (m : Nat) (h : m ≤ 64) (W : World) :
    (Instr.makeSlice 22 (.int .i64 (m : Int)) (.int .i64 (m : Int))).run Try.prog W = .ok (.slice (some ⟨W.heap.size, 0, none⟩) m m) (W.alloc (.cells (strs (List.replicate m ByteArray.empty)) 9)) := by
  obtain ⟨i, hi, hz, hs, hb⟩ := info_parts info9
  have hr := run_make (P := Try.prog) W 22 9 i (.string ByteArray.empty) Try.underlying22 hi hz .i64 .i64 m m (by omega) (Int.le_refl _) (by rw [hb]; omega) (by omega)
  rw [hr]
  have e : madeCells (Value.string ByteArray.empty).cells ((m : Int).toNat * i.size) = strs (List.replicate m ByteArray.empty) := by
    apply Array.ext'
    rw [hs, Nat.mul_one, Int.toNat_natCast]
    show (madeCells #[Value.string ByteArray.empty] m).toList = _
    rw [toList_madeCells_one]
    simp [strs]
  rw [e]
  simp

def NewPost (k : Nat) (w : World) (e : Ending) (w' : World) : Prop := ∃ g gl, e = .returned (.pointer (some ⟨g, 0, none⟩)) ∧ RingAt w' g gl (newR k) ∧ Below w.heap.size w w' ∧ w.heap.size ≤ g ∧ w.heap.size ≤ gl
theorem new_post (k : Nat) (w : World) : NewPost k w (.returned (.pointer (some ⟨w.heap.size + 1, 0, none⟩))) ((w.alloc (.cells (strs (List.replicate k ByteArray.empty)) 9)).alloc (.cells #[.slice (some ⟨w.heap.size, 0, none⟩) k k, .int .i64 0, .int .i64 0, .int .i64 0] 36)) := by
  refine ⟨_, w.heap.size, rfl, ⟨?_, ?_, by omega⟩, below_alloc (below_alloc (Below.refl _ _) _) _, by omega, by omega⟩
  · have := blk_new (w.alloc (.cells (strs (List.replicate k ByteArray.empty)) 9)) (.cells #[.slice (some ⟨w.heap.size, 0, none⟩) k k, .int .i64 0, .int .i64 0, .int .i64 0] 36)
    rw [World.size_alloc] at this
    rw [this]
    simp [R.cells, newR]
  · exact blk_below (blk_new w (.cells (strs (List.replicate k ByteArray.empty)) 9)) (below_alloc (Below.refl _ _) _)
theorem new_any (n : Int) (k : Nat) (hk : mn (mx n 1) 64 = (k : Int)) (w : World) : Calls Try.prog 7 #[.int .i64 n] w (NewPost k w) := by
  unfold mn mx at hk
  by_cases h1 : n < 1
  · obtain rfl : k = 1 := by rw [if_pos h1] at hk; simp at hk; omega
    have hm : (Instr.makeSlice 22 (.int .i64 1) (.int .i64 1)).run Try.prog w = _ := make_strs 1 (by omega) w
    clear hk
    go_enter Try.func7, Try.ntmps7
    go_wp2
    go_ret
    exact new_post 1 w
  · rw [if_neg h1] at hk
    by_cases h2 : 64 < n
    · obtain rfl : k = 64 := by rw [if_pos h2] at hk; omega
      have hm : (Instr.makeSlice 22 (.int .i64 64) (.int .i64 64)).run Try.prog w = _ := make_strs 64 (by omega) w
      clear hk
      go_enter Try.func7, Try.ntmps7
      go_wp2
      go_ret
      exact new_post 64 w
    · rw [if_neg h2] at hk
      subst hk
      have hm := make_strs k (by omega) w
      go_enter Try.func7, Try.ntmps7
      go_wp2
      go_ret
      exact new_post k w

theorem at_any (g gl : Nat) (r : R) (i : Int) (ix : Nat) (hix : ix = (r.first + i.toNat) % r.l.length) (w : World) (h : RingAt w g gl r) (h1 : 0 < r.l.length) (h2 : r.l.length ≤ 64) (h3 : r.first < r.l.length) (hi : 0 ≤ i) (hi2 : i ≤ 1000) :
    Calls Try.prog 16 #[.pointer (some ⟨g, 0, none⟩), .int .i64 i] w fun e w' => e = .returned (.int .i64 (ix : Int)) ∧ Drawn0 w w' := by
  have c0 : w.cell? ⟨g, 0, none⟩ = some (.slice (some ⟨gl, 0, none⟩) r.l.length r.l.length) := (blk_cell h.1 0).trans rfl
  have c1 : w.cell? ⟨g, 1, none⟩ = some (.int .i64 r.first) := (blk_cell h.1 1).trans rfl
  have e : ((r.first : Int) + i) % (r.l.length : Int) = (ix : Int) := by
    rw [hix, Int.natCast_emod]
    congr 1
    omega
  have E := Aside0.mk e
  clear e h hix
  go_enter Try.func16, Try.ntmps16
  go_wp2
  go_region
  all_goals (go_wp2; go_ret; rw [← E.out]; exact ⟨rfl, ⟨⟨1, rfl⟩⟩⟩)

theorem len_any (g gl : Nat) (r : R) (w : World) (h : RingAt w g gl r) : Calls Try.prog 10 #[.pointer (some ⟨g, 0, none⟩)] w fun e w' => e = .returned (.int .i64 r.n) ∧ w = w' := by
  have c2 : w.cell? ⟨g, 2, none⟩ = some (.int .i64 r.n) := (blk_cell h.1 2).trans rfl
  clear h
  go_enter Try.func10, Try.ntmps10
  go_wp2
  go_ret
  exact ⟨rfl, rfl⟩
theorem len_none (w : World) : Calls Try.prog 10 #[.pointer none] w fun e w' => e = .returned (.int .i64 0) ∧ w = w' := by
  go_enter Try.func10, Try.ntmps10
  go_wp2
  go_ret
  exact ⟨rfl, rfl⟩
theorem bytes_any (g gl : Nat) (r : R) (w : World) (h : RingAt w g gl r) : Calls Try.prog 11 #[.pointer (some ⟨g, 0, none⟩)] w fun e w' => e = .returned (.int .i64 r.bytes) ∧ w = w' := by
  have c2 : w.cell? ⟨g, 3, none⟩ = some (.int .i64 r.bytes) := (blk_cell h.1 3).trans rfl
  clear h
  go_enter Try.func11, Try.ntmps11
  go_wp2
  go_ret
  exact ⟨rfl, rfl⟩
theorem bytes_none (w : World) : Calls Try.prog 11 #[.pointer none] w fun e w' => e = .returned (.int .i64 0) ∧ w = w' := by
  go_enter Try.func11, Try.ntmps11
  go_wp2
  go_ret
  exact ⟨rfl, rfl⟩
theorem add_none (s : ByteArray) (w : World) : Calls Try.prog 8 #[.pointer none, .string s] w fun e w' => e = .returned (.tuple #[]) ∧ w = w' := by
  go_enter Try.func8, Try.ntmps8
  go_wp2
  refine bodyPost_ret (results_none rfl _ _ _) rfl ?_
  exact ⟨rfl, rfl⟩
theorem clear_none (w : World) : Calls Try.prog 15 #[.pointer none] w fun e w' => e = .returned (.tuple #[]) ∧ w = w' := by
  go_enter Try.func15, Try.ntmps15
  go_wp2
  go_end0
  exact ⟨rfl, rfl⟩
end Go.Proofs.Ytfcpjblogeofpab
