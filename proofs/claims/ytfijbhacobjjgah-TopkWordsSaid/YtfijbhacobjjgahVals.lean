/- Blocks that hold just the values of a list: how they read, are written, are made. -/
import Derived.Test.YtfijbhacobjjgahFrame
import Derived.Deep.QuietTactic
namespace Go.Proofs.Ytfijbhacobjjgah.Fr
open Go Go.RowKit Go.Proofs.YtfijbhacobjjgahW.PrintWords
set_option linter.unusedVariables false
set_option linter.unusedSimpArgs false
section
variable {α : Type} {enc : α → Value} {w w1 : World} {g : Nat} {t : TypeId} {l : List α}
def vals (enc : α → Value) (l : List α) : Array Value := (l.map enc).toArray
theorem vals_size (enc : α → Value) (l : List α) : (vals enc l).size = l.length := by simp [vals]
theorem vals_get (enc : α → Value) (l : List α) (i : Nat) (d : α) (h : i < l.length) : (vals enc l)[i]? = some (enc (l.getD i d)) := by
  simp [vals, h, List.getD_eq_getElem?_getD]
theorem vals_set (enc : α → Value) (l : List α) (i : Nat) (x : α) : (vals enc l).setIfInBounds i (enc x) = vals enc (l.set i x) := by
  apply Array.ext'
  simp [vals, List.map_set]
theorem vals_made (enc : α → Value) (m : Nat) (d : α) : madeCells #[enc d] m = vals enc (List.replicate m d) := by
  apply Array.ext'
  simp only [vals, madeCells]
  apply List.ext_getElem?
  intro i
  by_cases h : i < m
  · simp [h, Nat.mod_one]
  · simp [h]
/-- A block of just these. -/
def Blk (w : World) (g : Nat) (t : TypeId) (enc : α → Value) (l : List α) : Prop := w.heap[g]? = some (.cells (vals enc l) t (0, 0))
theorem Blk.cell (h : Blk w g t enc l) (i : Nat) (d : α) (hi : i < l.length) : w.cell? ⟨g, i, none⟩ = some (enc (l.getD i d)) := (blk_cell h i).trans (vals_get enc l i d hi)
theorem Blk.free (h : Blk w g t enc l) (i : Nat) : w.frozen? ⟨g, i, none⟩ = false := blk_frozen h i
theorem Blk.put (h : Blk w g t enc l) (i : Nat) (x : α) : Blk (w.setCell ⟨g, i, none⟩ (enc x)) g t enc (l.set i x) := blk_put h i _ (vals_set enc l i x)
theorem Blk.far (h : Blk w g t enc l) {k : Nat} (hk : g ≠ k) (i : Nat) (u : Value) : Blk (w.setCell ⟨k, i, none⟩ u) g t enc l := blk_far h hk u
theorem Blk.below (h : Blk w g t enc l) (hb : Below w.heap.size w w1) : Blk w1 g t enc l := blk_below h hb
theorem Blk.ch {S : Nat → Prop} (h : Blk w g t enc l) (hc : Ch S w w1) (hs : ¬ S g) : Blk w1 g t enc l := hc.blk h hs
theorem Blk.lt (h : Blk w g t enc l) : g < w.heap.size := blk_lt h
theorem Blk.make (w : World) (t : TypeId) (enc : α → Value) (m : Nat) (d : α) : Blk (w.alloc (.cells (madeCells #[enc d] m) t)) w.heap.size t enc (List.replicate m d) := by
  have := blk_new w (.cells (madeCells #[enc d] m) t)
  rw [vals_made] at this
  unfold Blk
  rw [vals_made]
  exact this
theorem Blk.lit (w : World) (t : TypeId) (enc : α → Value) (l : List α) : Blk (w.alloc (.cells (vals enc l) t)) w.heap.size t enc l := blk_new w _
theorem Blk.own (h : Blk w g t enc l) {base : Nat} (hb : base ≤ g) (hl : l.length ≤ 9223372036854775807) : w.ownsRow base t 1 (.slice (some ⟨g, 0, none⟩) l.length l.length) l.length (l.map enc) := by
  refine ⟨by simp, .inr ⟨g, l.length, vals enc l, rfl, hb, h, Nat.le_refl _, by simpa [maxLen] using hl, by simp [vals], by simp only [vals, Nat.mul_one]; exact List.take_of_length_le (by simp)⟩⟩
end
theorem Blk.reads {k : IntKind} {w : World} {g : Nat} {t : TypeId} {l : List Int} (h : Blk w g t (Value.int k) l) (hl : l.length ≤ 9223372036854775807) : Kd.C (Kd.int k) w (some ⟨g, 0, none⟩) l.length l :=
  ⟨rfl, hl, fun _ => ⟨_, rfl, fun j p hj => ⟨[.int k p], rfl, rfl, fun i u hu => by
    have hlt : j < l.length := by rw [List.getElem?_eq_some_iff] at hj; exact hj.1
    have hi : i = 0 := by
      rcases i with _ | i
      · rfl
      · simp at hu
    subst hi
    have e : u = .int k (l.getD j 0) := by
      simp at hu
      rw [← hu, List.getD_eq_getElem?_getD, hj]
      rfl
    rw [e, Go.Proofs.YtfijbhacobjjgahW.PrintWords.add_plain]
    have := h.cell j 0 hlt
    have e1 : j * (Kd.int k).sz + 0 = j := Nat.mul_one j
    rw [e1]
    exact this⟩⟩⟩
theorem Blk.row {k : IntKind} {w : World} {g base : Nat} {t : TypeId} {l : List Int} (h : Blk w g t (Value.int k) l) (hb : base ≤ g) (hl : l.length ≤ 9223372036854775807) {ok : Nat → Prop} (hok : ok g) : Kd.R (Kd.int k) t w base ok (.slice (some ⟨g, 0, none⟩) l.length l.length) l :=
  Kd.R_of_own (enc := Value.int k) (h1 := fun _ => rfl) (h.own hb hl) (fun i hi => by simp [Value.ownBlock] at hi; exact hi ▸ hok)
theorem cell_off (x : Addr) {j : Nat} (hj : j ≠ 0) : x.add j = ⟨x.block, x.off + j, none⟩ := by unfold Addr.add; rw [if_neg hj]
/-- A quiet callee, in a region that draws. -/
theorem q_same {P : Program} {f : FuncId} {args : Array Value} {w : World} {n : Nat} {v : Value} (h : Calls P f args (w.drewN n) fun e w' => e = .returned v ∧ w.drewN n = w') : Calls P f args (w.drewN n) fun e w'' => e = .returned v ∧ ∃ m, w'' = w.drewN m :=
  h.mono fun _ _ ⟨he, hm⟩ => ⟨he, n, hm.symm⟩
theorem q_drawn {P : Program} {f : FuncId} {args : Array Value} {w : World} {n : Nat} {v : Value} (h : Calls P f args (w.drewN n) fun e w' => e = .returned v ∧ Drawn0 (w.drewN n) w') : Calls P f args (w.drewN n) fun e w'' => e = .returned v ∧ ∃ m, w'' = w.drewN m :=
  h.mono fun _ _ ⟨he, ⟨⟨m, hm⟩⟩⟩ => ⟨he, n + m, by rw [hm, World.drewN_drewN]⟩
end Go.Proofs.Ytfijbhacobjjgah.Fr
