/- The contract of chain's New. -/
import Derived.Test.YtfijbhacobjjgaaChainB
namespace Go.Proofs.Ytfijbhacobjjgaa
open Go.RowKit Go.Proofs.YtfijbhacobjjgaaW.PrintWords Go.Proofs.YtfijbhacobjjgaaW.PrintLast Go.Proofs.YtfijbhacobjjgaaW.PrintMore Go.Proofs.Ytfijbhacobjjgaa.Fr
set_option linter.unusedVariables false
set_option linter.unusedSimpArgs false
attribute [local go_sem] max2_int min2_int max_two min_two

theorem info3 : (Try.prog.info? 3).map (fun i => (i.zero, i.size, i.bytes)) = some (some (.int .i64 0), 1, 8) := by kernel_rfl
/-- What New answers. -/
def NewPost (T : ByteArray) (w0 : World) (e : Ending) (w' : World) : Prop := ∃ g gh ga gn hs, e = .returned (.pointer (some ⟨g, 0, none⟩)) ∧ FinderAt w' g gh ga gn T hs (List.replicate T.size 0) (List.replicate T.size false) ∧ (∀ k, k < 1024 → hs.getD k 0 = -1) ∧ Below w0.heap.size w0 w' ∧ w0.heap.size ≤ g ∧ w0.heap.size ≤ gh ∧ w0.heap.size ≤ ga ∧ w0.heap.size ≤ gn
theorem heap_two (V : World) (A B : Obj) : ((V.alloc A).alloc B).drew.heap[V.heap.size]? = some A ∧ ((V.alloc A).alloc B).drew.heap[V.heap.size + 1]? = some B ∧ Below V.heap.size V ((V.alloc A).alloc B).drew := by
  refine ⟨blk_below (w := V.alloc A) (w1 := ((V.alloc A).alloc B).drew) (blk_new V A) (below_drew (below_alloc (Below.refl _ _) _)), ?_, below_drew (below_alloc (below_alloc (Below.refl _ _) _) _)⟩
  have := blk_new (V.alloc A) B
  rw [show (V.alloc A).heap.size = V.heap.size + 1 by simp] at this
  exact this
theorem fin23i {w0 wr : World} {g gh n k : Nat} {T : ByteArray} {hs : List Int} (hn : wr.heap.size = n) (hg : w0.heap.size = g ∧ g + 1 = gh) (hT : T.size ≤ 2000) (hk : 1024 ≤ k)
    (hI : hs.length = 1024 ∧ (∀ j, j < k → hs.getD j 0 = -1) ∧ wr.heap[g]? = some (.cells #[.string T, .slice (some ⟨gh, 0, none⟩) 1024 1024, .slice none 0 0, .slice none 0 0] 41 (0, 0)) ∧ Blk wr gh 3 (Value.int .i64) hs ∧ Below g w0 wr) :
    NewPost T w0 (.returned (.pointer (some ⟨g, 0, none⟩))) ((((wr.setCell ⟨g, 2, none⟩ (.slice (some ⟨n, 0, none⟩) T.size T.size)).setCell ⟨g, 3, none⟩ (.slice (some ⟨n + 1, 0, none⟩) T.size T.size)).alloc (.cells (madeCells #[Value.int .i64 0] T.size) 3)).alloc (.cells (madeCells #[Value.bool false] T.size) 4)).drew := by
  have hV : ((wr.setCell ⟨g, 2, none⟩ (.slice (some ⟨n, 0, none⟩) T.size T.size)).setCell ⟨g, 3, none⟩ (.slice (some ⟨n + 1, 0, none⟩) T.size T.size)).heap.size = n := by simp [World.setCell, hn]
  have hb : ((wr.setCell ⟨g, 2, none⟩ (.slice (some ⟨n, 0, none⟩) T.size T.size)).setCell ⟨g, 3, none⟩ (.slice (some ⟨n + 1, 0, none⟩) T.size T.size)).heap[g]? = some (.cells #[.string T, .slice (some ⟨gh, 0, none⟩) 1024 1024, .slice (some ⟨n, 0, none⟩) T.size T.size, .slice (some ⟨n + 1, 0, none⟩) T.size T.size] 41 (0, 0)) := blk_put (blk_put hI.2.2.1 2 _ rfl) 3 _ rfl
  have hne : g ≠ gh := by omega
  have hh : Blk ((wr.setCell ⟨g, 2, none⟩ (.slice (some ⟨n, 0, none⟩) T.size T.size)).setCell ⟨g, 3, none⟩ (.slice (some ⟨n + 1, 0, none⟩) T.size T.size)) gh 3 (Value.int .i64) hs := (hI.2.2.2.1.far (Ne.symm hne) _ _).far (Ne.symm hne) _ _
  have hc : Below g w0 ((wr.setCell ⟨g, 2, none⟩ (.slice (some ⟨n, 0, none⟩) T.size T.size)).setCell ⟨g, 3, none⟩ (.slice (some ⟨n + 1, 0, none⟩) T.size T.size)) := Ch.onto (S := fun i => i = g) hI.2.2.2.2 (((Ch.refl (fun i => i = g) _).set rfl).set rfl) (by have := hI.2.2.2.2.size; omega) (fun i e => by omega)
  have hlt := hI.2.2.2.1.lt
  generalize ((wr.setCell ⟨g, 2, none⟩ (.slice (some ⟨n, 0, none⟩) T.size T.size)).setCell ⟨g, 3, none⟩ (.slice (some ⟨n + 1, 0, none⟩) T.size T.size)) = V at hV hb hh hc ⊢
  have hgl : g < n := by have := blk_lt hb; omega
  obtain ⟨hA, hB, hbel⟩ := heap_two V (.cells (madeCells #[Value.int .i64 0] T.size) 3) (.cells (madeCells #[Value.bool false] T.size) 4)
  rw [hV] at hA hB
  have hi1 : Blk (((V.alloc (.cells (madeCells #[Value.int .i64 0] T.size) 3)).alloc (.cells (madeCells #[Value.bool false] T.size) 4)).drew) (n) 3 (Value.int .i64) (List.replicate T.size 0) := by unfold Blk; rw [← vals_made]; exact hA
  have hb1 : Blk (((V.alloc (.cells (madeCells #[Value.int .i64 0] T.size) 3)).alloc (.cells (madeCells #[Value.bool false] T.size) 4)).drew) (n + 1) 4 Value.bool (List.replicate T.size false) := by unfold Blk; rw [← vals_made]; exact hB
  have hsz := hI.2.2.2.2.size
  exact ⟨g, gh, n, n + 1, hs, rfl, ⟨blk_below hb (by rw [hV]; rw [hV] at hbel; exact hbel), Blk.below hh (by rw [hV]; rw [hV] at hbel; exact hbel), hi1, hb1, hI.1, by simp, by simp, hT, hne, by omega, by omega, by omega, by omega, by omega⟩, fun j hj => hI.2.1 j (by omega), by rw [hg.1]; exact ⟨hbel.os.trans hc.os, hbel.tape.trans hc.tape, hbel.output.trans hc.output, Nat.le_trans hc.size hbel.size, fun i hi => (hbel.block i (by omega)).trans (hc.block i hi)⟩, by omega, by omega, by omega, by omega⟩
theorem fin32i {w0 wr : World} {g gh n k : Nat} {T : ByteArray} {hs : List Int} (hn : wr.heap.size = n) (hg : w0.heap.size = g ∧ g + 1 = gh) (hT : T.size ≤ 2000) (hk : 1024 ≤ k)
    (hI : hs.length = 1024 ∧ (∀ j, j < k → hs.getD j 0 = -1) ∧ wr.heap[g]? = some (.cells #[.string T, .slice (some ⟨gh, 0, none⟩) 1024 1024, .slice none 0 0, .slice none 0 0] 41 (0, 0)) ∧ Blk wr gh 3 (Value.int .i64) hs ∧ Below g w0 wr) :
    NewPost T w0 (.returned (.pointer (some ⟨g, 0, none⟩))) ((((wr.setCell ⟨g, 3, none⟩ (.slice (some ⟨n + 1, 0, none⟩) T.size T.size)).setCell ⟨g, 2, none⟩ (.slice (some ⟨n, 0, none⟩) T.size T.size)).alloc (.cells (madeCells #[Value.int .i64 0] T.size) 3)).alloc (.cells (madeCells #[Value.bool false] T.size) 4)).drew := by
  have hV : ((wr.setCell ⟨g, 3, none⟩ (.slice (some ⟨n + 1, 0, none⟩) T.size T.size)).setCell ⟨g, 2, none⟩ (.slice (some ⟨n, 0, none⟩) T.size T.size)).heap.size = n := by simp [World.setCell, hn]
  have hb : ((wr.setCell ⟨g, 3, none⟩ (.slice (some ⟨n + 1, 0, none⟩) T.size T.size)).setCell ⟨g, 2, none⟩ (.slice (some ⟨n, 0, none⟩) T.size T.size)).heap[g]? = some (.cells #[.string T, .slice (some ⟨gh, 0, none⟩) 1024 1024, .slice (some ⟨n, 0, none⟩) T.size T.size, .slice (some ⟨n + 1, 0, none⟩) T.size T.size] 41 (0, 0)) := blk_put (blk_put hI.2.2.1 3 _ rfl) 2 _ rfl
  have hne : g ≠ gh := by omega
  have hh : Blk ((wr.setCell ⟨g, 3, none⟩ (.slice (some ⟨n + 1, 0, none⟩) T.size T.size)).setCell ⟨g, 2, none⟩ (.slice (some ⟨n, 0, none⟩) T.size T.size)) gh 3 (Value.int .i64) hs := (hI.2.2.2.1.far (Ne.symm hne) _ _).far (Ne.symm hne) _ _
  have hc : Below g w0 ((wr.setCell ⟨g, 3, none⟩ (.slice (some ⟨n + 1, 0, none⟩) T.size T.size)).setCell ⟨g, 2, none⟩ (.slice (some ⟨n, 0, none⟩) T.size T.size)) := Ch.onto (S := fun i => i = g) hI.2.2.2.2 (((Ch.refl (fun i => i = g) _).set rfl).set rfl) (by have := hI.2.2.2.2.size; omega) (fun i e => by omega)
  have hlt := hI.2.2.2.1.lt
  generalize ((wr.setCell ⟨g, 3, none⟩ (.slice (some ⟨n + 1, 0, none⟩) T.size T.size)).setCell ⟨g, 2, none⟩ (.slice (some ⟨n, 0, none⟩) T.size T.size)) = V at hV hb hh hc ⊢
  have hgl : g < n := by have := blk_lt hb; omega
  obtain ⟨hA, hB, hbel⟩ := heap_two V (.cells (madeCells #[Value.int .i64 0] T.size) 3) (.cells (madeCells #[Value.bool false] T.size) 4)
  rw [hV] at hA hB
  have hi1 : Blk (((V.alloc (.cells (madeCells #[Value.int .i64 0] T.size) 3)).alloc (.cells (madeCells #[Value.bool false] T.size) 4)).drew) (n) 3 (Value.int .i64) (List.replicate T.size 0) := by unfold Blk; rw [← vals_made]; exact hA
  have hb1 : Blk (((V.alloc (.cells (madeCells #[Value.int .i64 0] T.size) 3)).alloc (.cells (madeCells #[Value.bool false] T.size) 4)).drew) (n + 1) 4 Value.bool (List.replicate T.size false) := by unfold Blk; rw [← vals_made]; exact hB
  have hsz := hI.2.2.2.2.size
  exact ⟨g, gh, n, n + 1, hs, rfl, ⟨blk_below hb (by rw [hV]; rw [hV] at hbel; exact hbel), Blk.below hh (by rw [hV]; rw [hV] at hbel; exact hbel), hi1, hb1, hI.1, by simp, by simp, hT, hne, by omega, by omega, by omega, by omega, by omega⟩, fun j hj => hI.2.1 j (by omega), by rw [hg.1]; exact ⟨hbel.os.trans hc.os, hbel.tape.trans hc.tape, hbel.output.trans hc.output, Nat.le_trans hc.size hbel.size, fun i hi => (hbel.block i (by omega)).trans (hc.block i hi)⟩, by omega, by omega, by omega, by omega⟩
theorem fin23b {w0 wr : World} {g gh n k : Nat} {T : ByteArray} {hs : List Int} (hn : wr.heap.size = n) (hg : w0.heap.size = g ∧ g + 1 = gh) (hT : T.size ≤ 2000) (hk : 1024 ≤ k)
    (hI : hs.length = 1024 ∧ (∀ j, j < k → hs.getD j 0 = -1) ∧ wr.heap[g]? = some (.cells #[.string T, .slice (some ⟨gh, 0, none⟩) 1024 1024, .slice none 0 0, .slice none 0 0] 41 (0, 0)) ∧ Blk wr gh 3 (Value.int .i64) hs ∧ Below g w0 wr) :
    NewPost T w0 (.returned (.pointer (some ⟨g, 0, none⟩))) ((((wr.setCell ⟨g, 2, none⟩ (.slice (some ⟨n + 1, 0, none⟩) T.size T.size)).setCell ⟨g, 3, none⟩ (.slice (some ⟨n, 0, none⟩) T.size T.size)).alloc (.cells (madeCells #[Value.bool false] T.size) 4)).alloc (.cells (madeCells #[Value.int .i64 0] T.size) 3)).drew := by
  have hV : ((wr.setCell ⟨g, 2, none⟩ (.slice (some ⟨n + 1, 0, none⟩) T.size T.size)).setCell ⟨g, 3, none⟩ (.slice (some ⟨n, 0, none⟩) T.size T.size)).heap.size = n := by simp [World.setCell, hn]
  have hb : ((wr.setCell ⟨g, 2, none⟩ (.slice (some ⟨n + 1, 0, none⟩) T.size T.size)).setCell ⟨g, 3, none⟩ (.slice (some ⟨n, 0, none⟩) T.size T.size)).heap[g]? = some (.cells #[.string T, .slice (some ⟨gh, 0, none⟩) 1024 1024, .slice (some ⟨n + 1, 0, none⟩) T.size T.size, .slice (some ⟨n, 0, none⟩) T.size T.size] 41 (0, 0)) := blk_put (blk_put hI.2.2.1 2 _ rfl) 3 _ rfl
  have hne : g ≠ gh := by omega
  have hh : Blk ((wr.setCell ⟨g, 2, none⟩ (.slice (some ⟨n + 1, 0, none⟩) T.size T.size)).setCell ⟨g, 3, none⟩ (.slice (some ⟨n, 0, none⟩) T.size T.size)) gh 3 (Value.int .i64) hs := (hI.2.2.2.1.far (Ne.symm hne) _ _).far (Ne.symm hne) _ _
  have hc : Below g w0 ((wr.setCell ⟨g, 2, none⟩ (.slice (some ⟨n + 1, 0, none⟩) T.size T.size)).setCell ⟨g, 3, none⟩ (.slice (some ⟨n, 0, none⟩) T.size T.size)) := Ch.onto (S := fun i => i = g) hI.2.2.2.2 (((Ch.refl (fun i => i = g) _).set rfl).set rfl) (by have := hI.2.2.2.2.size; omega) (fun i e => by omega)
  have hlt := hI.2.2.2.1.lt
  generalize ((wr.setCell ⟨g, 2, none⟩ (.slice (some ⟨n + 1, 0, none⟩) T.size T.size)).setCell ⟨g, 3, none⟩ (.slice (some ⟨n, 0, none⟩) T.size T.size)) = V at hV hb hh hc ⊢
  have hgl : g < n := by have := blk_lt hb; omega
  obtain ⟨hA, hB, hbel⟩ := heap_two V (.cells (madeCells #[Value.bool false] T.size) 4) (.cells (madeCells #[Value.int .i64 0] T.size) 3)
  rw [hV] at hA hB
  have hi1 : Blk (((V.alloc (.cells (madeCells #[Value.bool false] T.size) 4)).alloc (.cells (madeCells #[Value.int .i64 0] T.size) 3)).drew) (n + 1) 3 (Value.int .i64) (List.replicate T.size 0) := by unfold Blk; rw [← vals_made]; exact hB
  have hb1 : Blk (((V.alloc (.cells (madeCells #[Value.bool false] T.size) 4)).alloc (.cells (madeCells #[Value.int .i64 0] T.size) 3)).drew) (n) 4 Value.bool (List.replicate T.size false) := by unfold Blk; rw [← vals_made]; exact hA
  have hsz := hI.2.2.2.2.size
  exact ⟨g, gh, n + 1, n, hs, rfl, ⟨blk_below hb (by rw [hV]; rw [hV] at hbel; exact hbel), Blk.below hh (by rw [hV]; rw [hV] at hbel; exact hbel), hi1, hb1, hI.1, by simp, by simp, hT, hne, by omega, by omega, by omega, by omega, by omega⟩, fun j hj => hI.2.1 j (by omega), by rw [hg.1]; exact ⟨hbel.os.trans hc.os, hbel.tape.trans hc.tape, hbel.output.trans hc.output, Nat.le_trans hc.size hbel.size, fun i hi => (hbel.block i (by omega)).trans (hc.block i hi)⟩, by omega, by omega, by omega, by omega⟩
theorem fin32b {w0 wr : World} {g gh n k : Nat} {T : ByteArray} {hs : List Int} (hn : wr.heap.size = n) (hg : w0.heap.size = g ∧ g + 1 = gh) (hT : T.size ≤ 2000) (hk : 1024 ≤ k)
    (hI : hs.length = 1024 ∧ (∀ j, j < k → hs.getD j 0 = -1) ∧ wr.heap[g]? = some (.cells #[.string T, .slice (some ⟨gh, 0, none⟩) 1024 1024, .slice none 0 0, .slice none 0 0] 41 (0, 0)) ∧ Blk wr gh 3 (Value.int .i64) hs ∧ Below g w0 wr) :
    NewPost T w0 (.returned (.pointer (some ⟨g, 0, none⟩))) ((((wr.setCell ⟨g, 3, none⟩ (.slice (some ⟨n, 0, none⟩) T.size T.size)).setCell ⟨g, 2, none⟩ (.slice (some ⟨n + 1, 0, none⟩) T.size T.size)).alloc (.cells (madeCells #[Value.bool false] T.size) 4)).alloc (.cells (madeCells #[Value.int .i64 0] T.size) 3)).drew := by
  have hV : ((wr.setCell ⟨g, 3, none⟩ (.slice (some ⟨n, 0, none⟩) T.size T.size)).setCell ⟨g, 2, none⟩ (.slice (some ⟨n + 1, 0, none⟩) T.size T.size)).heap.size = n := by simp [World.setCell, hn]
  have hb : ((wr.setCell ⟨g, 3, none⟩ (.slice (some ⟨n, 0, none⟩) T.size T.size)).setCell ⟨g, 2, none⟩ (.slice (some ⟨n + 1, 0, none⟩) T.size T.size)).heap[g]? = some (.cells #[.string T, .slice (some ⟨gh, 0, none⟩) 1024 1024, .slice (some ⟨n + 1, 0, none⟩) T.size T.size, .slice (some ⟨n, 0, none⟩) T.size T.size] 41 (0, 0)) := blk_put (blk_put hI.2.2.1 3 _ rfl) 2 _ rfl
  have hne : g ≠ gh := by omega
  have hh : Blk ((wr.setCell ⟨g, 3, none⟩ (.slice (some ⟨n, 0, none⟩) T.size T.size)).setCell ⟨g, 2, none⟩ (.slice (some ⟨n + 1, 0, none⟩) T.size T.size)) gh 3 (Value.int .i64) hs := (hI.2.2.2.1.far (Ne.symm hne) _ _).far (Ne.symm hne) _ _
  have hc : Below g w0 ((wr.setCell ⟨g, 3, none⟩ (.slice (some ⟨n, 0, none⟩) T.size T.size)).setCell ⟨g, 2, none⟩ (.slice (some ⟨n + 1, 0, none⟩) T.size T.size)) := Ch.onto (S := fun i => i = g) hI.2.2.2.2 (((Ch.refl (fun i => i = g) _).set rfl).set rfl) (by have := hI.2.2.2.2.size; omega) (fun i e => by omega)
  have hlt := hI.2.2.2.1.lt
  generalize ((wr.setCell ⟨g, 3, none⟩ (.slice (some ⟨n, 0, none⟩) T.size T.size)).setCell ⟨g, 2, none⟩ (.slice (some ⟨n + 1, 0, none⟩) T.size T.size)) = V at hV hb hh hc ⊢
  have hgl : g < n := by have := blk_lt hb; omega
  obtain ⟨hA, hB, hbel⟩ := heap_two V (.cells (madeCells #[Value.bool false] T.size) 4) (.cells (madeCells #[Value.int .i64 0] T.size) 3)
  rw [hV] at hA hB
  have hi1 : Blk (((V.alloc (.cells (madeCells #[Value.bool false] T.size) 4)).alloc (.cells (madeCells #[Value.int .i64 0] T.size) 3)).drew) (n + 1) 3 (Value.int .i64) (List.replicate T.size 0) := by unfold Blk; rw [← vals_made]; exact hB
  have hb1 : Blk (((V.alloc (.cells (madeCells #[Value.bool false] T.size) 4)).alloc (.cells (madeCells #[Value.int .i64 0] T.size) 3)).drew) (n) 4 Value.bool (List.replicate T.size false) := by unfold Blk; rw [← vals_made]; exact hA
  have hsz := hI.2.2.2.2.size
  exact ⟨g, gh, n + 1, n, hs, rfl, ⟨blk_below hb (by rw [hV]; rw [hV] at hbel; exact hbel), Blk.below hh (by rw [hV]; rw [hV] at hbel; exact hbel), hi1, hb1, hI.1, by simp, by simp, hT, hne, by omega, by omega, by omega, by omega, by omega⟩, fun j hj => hI.2.1 j (by omega), by rw [hg.1]; exact ⟨hbel.os.trans hc.os, hbel.tape.trans hc.tape, hbel.output.trans hc.output, Nat.le_trans hc.size hbel.size, fun i hi => (hbel.block i (by omega)).trans (hc.block i hi)⟩, by omega, by omega, by omega, by omega⟩

theorem info4 : (Try.prog.info? 4).map (fun i => (i.zero, i.size, i.bytes)) = some (some (.bool false), 1, 1) := by kernel_rfl
set_option maxRecDepth 100000 in
set_option maxHeartbeats 4000000 in
theorem new_any (T : ByteArray) (hT : T.size ≤ 2000) (w0 : World) : Calls Try.prog 7 #[.string T] w0 (NewPost T w0) := by
  obtain ⟨mh, HMH⟩ : ∃ mh, Aside0 (madeCells #[Value.int .i64 0] 1024 = mh) := ⟨_, ⟨rfl⟩⟩
  have hmk : ∀ W : World, (Instr.makeSlice 27 (.int .i64 1024) (.int .i64 1024)).run Try.prog W = .ok (.slice (some ⟨W.heap.size, 0, none⟩) 1024 1024) (W.alloc (.cells mh 3)) := by
    rw [← HMH.out]
    exact print_make (P := Try.prog) 27 3 .i64 8 Try.underlying27 info3 (by decide) 1024 (by omega)
  have hmk2 := print_make (P := Try.prog) 27 3 .i64 8 Try.underlying27 info3 (by decide) T.size (by omega)
  have hmk3 := print_make_of (P := Try.prog) 39 4 (.bool false) 1 Try.underlying39 info4 rfl (by decide) T.size (by omega)
  have hmin : (if (2000 : Int) < (T.size : Int) then 2000 else (T.size : Int)) = (T.size : Int) := by rw [if_neg (by omega)]
  obtain ⟨hs0, hhs0⟩ : ∃ hs0 : List Int, List.replicate 1024 0 = hs0 := ⟨_, rfl⟩
  have HH0 : Aside0 (mh = vals (Value.int .i64) hs0 ∧ hs0.length = 1024) := ⟨by rw [← HMH.out, vals_made, hhs0], by rw [← hhs0]; simp⟩
  clear hhs0 HMH
  obtain ⟨g, hg⟩ : ∃ g, w0.heap.size = g := ⟨_, rfl⟩
  go_enter Try.func7, Try.ntmps7
  go_wp2_with fail
  have HT : Aside0 (((w0.alloc (.cells #[.string T, .slice (some ⟨g + 1, 0, none⟩) 1024 1024, .slice none 0 0, .slice none 0 0] 41)).alloc (.cells mh 3)).heap[g]? = some (.cells #[.string T, .slice (some ⟨g + 1, 0, none⟩) 1024 1024, .slice none 0 0, .slice none 0 0] 41 (0, 0)) ∧ Blk ((w0.alloc (.cells #[.string T, .slice (some ⟨g + 1, 0, none⟩) 1024 1024, .slice none 0 0, .slice none 0 0] 41)).alloc (.cells mh 3)) (g + 1) 3 (Value.int .i64) hs0 ∧ Below g w0 ((w0.alloc (.cells #[.string T, .slice (some ⟨g + 1, 0, none⟩) 1024 1024, .slice none 0 0, .slice none 0 0] 41)).alloc (.cells mh 3))) := ⟨by
    subst hg
    refine ⟨blk_below (blk_new w0 _) (below_alloc (Below.refl _ _) _), ?_, below_alloc (below_alloc (Below.refl _ _) _) _⟩
    have := blk_new (w0.alloc (.cells #[.string T, .slice (some ⟨w0.heap.size + 1, 0, none⟩) 1024 1024, .slice none 0 0, .slice none 0 0] 41)) (.cells mh 3)
    rw [HH0.out.1] at this ⊢
    simpa [Blk] using this⟩
  generalize (w0.alloc (.cells #[.string T, .slice (some ⟨g + 1, 0, none⟩) 1024 1024, .slice none 0 0, .slice none 0 0] 41)).alloc (.cells mh 3) = W at HT ⊢
  obtain ⟨gh, hgh⟩ : ∃ gh, g + 1 = gh := ⟨_, rfl⟩
  rw [hgh] at HT ⊢
  have HG : Aside0 (w0.heap.size = g ∧ g + 1 = gh) := ⟨hg, hgh⟩
  clear hg hgh hmk
  go_loopg [21] 1024 (fun gk y wr => ∃ (k : Nat) (hs : List Int), Aside0 (k + gk = 1024) ∧ y = .int .i64 k ∧ Aside0 (hs.length = 1024 ∧ (∀ j, j < k → hs.getD j 0 = -1) ∧ wr.heap[g]? = some (.cells #[.string T, .slice (some ⟨gh, 0, none⟩) 1024 1024, .slice none 0 0, .slice none 0 0] 41 (0, 0)) ∧ Blk wr gh 3 (Value.int .i64) hs ∧ Below g w0 wr))
  case atStart => exact ⟨0, hs0, ⟨by omega⟩, rfl, ⟨HH0.out.2, fun j hj => by omega, HT.out.1, HT.out.2.1, HT.out.2.2⟩⟩
  case round =>
    clear HT
    obtain ⟨k, hs, HK, rfl, HI⟩ := hrel
    have c1 : wr.cell? ⟨g, 1, none⟩ = some (.slice (some ⟨gh, 0, none⟩) 1024 1024) := (blk_cell HI.out.2.2.1 1).trans rfl
    have hne : g ≠ gh := by have := HG.out; omega
    by_cases hlt : k < 1024
    · have e1 : wr.cell? ⟨gh, k, none⟩ = some (.int .i64 (hs.getD k 0)) := HI.out.2.2.2.1.cell k 0 (by rw [HI.out.1]; exact hlt)
      have f1 := HI.out.2.2.2.1.free k
      go_wp2
      go_roundg (gk - 1)
      case measure => have := HK.out; omega
      case rel =>
        refine ⟨k + 1, hs.set k (-1), ⟨by have := HK.out; omega⟩, by go_num, ⟨by rw [List.length_set]; exact HI.out.1, ?_, blk_far HI.out.2.2.1 hne _, HI.out.2.2.2.1.put k (-1), Ch.onto (S := fun i => i = gh) HI.out.2.2.2.2 ((Ch.refl _ _).set rfl) (by have := HG.out; have := HI.out.2.2.2.2.size; omega) (fun i e => by have := HG.out; omega)⟩⟩
        intro j hj
        by_cases e : j = k
        · subst e; simp [List.getD_eq_getElem?_getD, List.getElem?_set, HI.out.1, hlt]
        · have := HI.out.2.1 j (by omega)
          rw [← this]
          simp [List.getD_eq_getElem?_getD, List.getElem?_set, Ne.symm e]
    · have c0 : wr.cell? ⟨g, 0, none⟩ = some (.string T) := (blk_cell HI.out.2.2.1 0).trans rfl
      have c2 : wr.cell? ⟨g, 2, none⟩ = some (.slice none 0 0) := (blk_cell HI.out.2.2.1 2).trans rfl
      have c3 : wr.cell? ⟨g, 3, none⟩ = some (.slice none 0 0) := (blk_cell HI.out.2.2.1 3).trans rfl
      have fg := fun i => blk_frozen HI.out.2.2.1 i
      have hgl : g < wr.heap.size := blk_lt HI.out.2.2.1
      have hk : 1024 ≤ k := by omega
      go_wp2
      go_region
      all_goals
        go_wp2
        go_ret
        show NewPost T w0 (.returned (.pointer (some ⟨g, 0, none⟩))) _
        first | (with_reducible exact fin23i rfl HG.out hT hk HI.out) | (with_reducible exact fin32i rfl HG.out hT hk HI.out) | (with_reducible exact fin23b rfl HG.out hT hk HI.out) | (with_reducible exact fin32b rfl HG.out hT hk HI.out) | trace_state
end Go.Proofs.Ytfijbhacobjjgaa
