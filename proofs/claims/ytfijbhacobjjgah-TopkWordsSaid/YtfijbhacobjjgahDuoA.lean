/- Two objects side by side, each in blocks of its own, and a block of the call's besides. -/
import Derived.Test.YtfijbhacobjjgahRankA
namespace Go.Proofs.Ytfijbhacobjjgah
open Go.RowKit Go.Proofs.YtfijbhacobjjgahW.PrintWords Go.Proofs.YtfijbhacobjjgahW.PrintLast Go.Proofs.YtfijbhacobjjgahW.PrintMore Go.Proofs.Ytfijbhacobjjgah.Fr
set_option linter.unusedVariables false
set_option linter.unusedSimpArgs false
attribute [local go_sem] max2_int min2_int max_two min_two

/-- What is said of an object that lies in the blocks F: it hangs on these alone. -/
structure Fam (B : Nat) (X : (Nat → Prop) → World → Prop) : Prop where
  lt : ∀ F w i, X F w → F i → i < w.heap.size ∧ B ≤ i
  ch : ∀ F w w' S, X F w → Ch S w w' → (∀ i, F i → ¬ S i) → X F w'
def only (F0 : Nat → Prop) (X : (Nat → Prop) → World → Prop) (F : Nat → Prop) (w : World) : Prop := F = F0 ∧ X F w
/-- An act that turned the object. -/
def Turned (X' : (Nat → Prop) → World → Prop) (F : Nat → Prop) (w w' : World) : Prop := ∃ F', X' F' w' ∧ Ch F w w' ∧ ∀ i, F' i → F i ∨ w.heap.size ≤ i
structure Duo (B : Nat) (a : World) (bx : Option (Nat × Obj)) (X Y : (Nat → Prop) → World → Prop) (w : World) : Prop where
  ex : ∃ F H, X F w ∧ Y H w ∧ (∀ i, F i → ¬ H i) ∧ ∀ p, bx = some p → w.heap[p.1]? = some p.2 ∧ ¬ F p.1 ∧ ¬ H p.1
  bel : Below B a w
  hB : B ≤ w.heap.size
section
variable {B : Nat} {a w w1 : World} {bx : Option (Nat × Obj)} {X X' Y Y' : (Nat → Prop) → World → Prop} {F0 : Nat → Prop}
theorem Fam.only (h : Fam B X) (F0 : Nat → Prop) : Fam B (only F0 X) := ⟨fun F w i hx => h.lt F w i hx.2, fun F w w' S hx hc hs => ⟨hx.1, h.ch F w w' S hx.2 hc hs⟩⟩
theorem Turned.refl {F : Nat → Prop} (h : X F w) : Turned X F w w := ⟨F, h, Ch.refl _ _, fun _ h => .inl h⟩
theorem Turned.mono {F : Nat → Prop} (h : Turned X F w w1) (k : ∀ F w, X F w → X' F w) : Turned X' F w w1 := by obtain ⟨F', hx, hc, hs⟩ := h; exact ⟨F', k _ _ hx, hc, hs⟩
theorem Duo.flip (h : Duo B a bx X Y w) : Duo B a bx Y X w := by
  obtain ⟨⟨F, H, hx, hy, hd, hg⟩, bel, hB⟩ := h
  exact ⟨⟨H, F, hy, hx, fun i h1 h2 => hd i h2 h1, fun p e => ⟨(hg p e).1, (hg p e).2.2, (hg p e).2.1⟩⟩, bel, hB⟩
theorem Duo.left (h : Duo B a bx (only F0 X) Y w) (fx : Fam B X) (fy : Fam B Y) (ht : Turned X' F0 w w1) : Duo B a bx X' Y w1 := by
  obtain ⟨⟨F, H, ⟨rfl, hx⟩, hy, hd, hg⟩, bel, hB⟩ := h
  obtain ⟨F', hx', hc, hs⟩ := ht
  refine ⟨⟨F', H, hx', fy.ch _ _ _ _ hy hc (fun i h1 h2 => hd i h2 h1), fun i h1 h2 => ?_, fun p e => ⟨hc.blk (hg p e).1 (hg p e).2.1, fun e1 => ?_, (hg p e).2.2⟩⟩, Ch.onto bel hc hB (fun i e => (fx.lt _ _ _ hx e).2), Nat.le_trans hB hc.size⟩
  · rcases hs i h1 with e | e
    · exact hd i e h2
    · have := (fy.lt _ _ _ hy h2).1; omega
  · rcases hs p.1 e1 with e2 | e2
    · exact (hg p e).2.1 e2
    · have := blk_lt (hg p e).1; omega
theorem Duo.right (h : Duo B a bx X (only F0 Y) w) (fx : Fam B X) (fy : Fam B Y) (ht : Turned Y' F0 w w1) : Duo B a bx X Y' w1 := (h.flip.left fy fx ht).flip
theorem Duo.pin (h : Duo B a bx X Y w) : ∃ F H, X F w ∧ Y H w ∧ Duo B a bx (only F X) (only H Y) w := by
  obtain ⟨⟨F, H, hx, hy, hd, hg⟩, bel, hB⟩ := h
  exact ⟨F, H, hx, hy, ⟨F, H, ⟨rfl, hx⟩, ⟨rfl, hy⟩, hd, hg⟩, bel, hB⟩
theorem Duo.from (h : Duo B a bx X Y w) (fx : Fam B X) (fy : Fam B Y) (k : Below w.heap.size w w1) : Duo B a bx X Y w1 := by
  obtain ⟨⟨F, H, hx, hy, hd, hg⟩, bel, hB⟩ := h
  have hc : Ch (fun _ => False) w w1 := Ch.of_below k
  exact ⟨⟨F, H, fx.ch _ _ _ _ hx hc (fun _ _ e => e), fy.ch _ _ _ _ hy hc (fun _ _ e => e), hd, fun p e => ⟨hc.blk (hg p e).1 (fun e => e), (hg p e).2⟩⟩, Ch.onto bel hc hB (fun _ e => e.elim), Nat.le_trans hB hc.size⟩
theorem Duo.with (h : Duo B a none X Y w) (fx : Fam B X) (fy : Fam B Y) (o : Obj) : Duo B a (some (w.heap.size, o)) X Y (w.alloc o) := by
  obtain ⟨⟨F, H, hx, hy, hd, hg⟩, bel, hB⟩ := h
  have hc : Ch (fun _ => False) w (w.alloc o) := Ch.of_below (below_alloc (Below.refl _ _) _)
  refine ⟨⟨F, H, fx.ch _ _ _ _ hx hc (fun _ _ e => e), fy.ch _ _ _ _ hy hc (fun _ _ e => e), hd, fun p e => ?_⟩, Ch.onto bel hc hB (fun _ e => e.elim), Nat.le_trans hB hc.size⟩
  cases e
  exact ⟨blk_new w o, fun e => by have := (fx.lt _ _ _ hx e).1; simp at this, fun e => by have := (fy.lt _ _ _ hy e).1; simp at this⟩
theorem Duo.bare (h : Duo B a bx X Y w) : Duo B a none X Y w := by
  obtain ⟨⟨F, H, hx, hy, hd, _⟩, bel, hB⟩ := h
  exact ⟨⟨F, H, hx, hy, hd, fun p e => by cases e⟩, bel, hB⟩
theorem Duo.mono (h : Duo B a bx X Y w) (k : ∀ F w, X F w → X' F w) (k2 : ∀ F w, Y F w → Y' F w) : Duo B a bx X' Y' w := by
  obtain ⟨⟨F, H, hx, hy, hd, hg⟩, bel, hB⟩ := h
  exact ⟨⟨F, H, k _ _ hx, k2 _ _ hy, hd, hg⟩, bel, hB⟩
theorem Duo.box {gx : Nat} {o : Obj} (h : Duo B a (some (gx, o)) X Y w) : w.heap[gx]? = some o := by
  obtain ⟨⟨F, H, _, _, _, hg⟩, _, _⟩ := h
  exact (hg _ rfl).1
end
section
variable {B : Nat} {a w w1 : World} {bx : Option (Nat × Obj)} {X X' Y Y' : (Nat → Prop) → World → Prop} {F H : Nat → Prop}
theorem Duo.goX (h : Duo B a bx X Y w) (fx : Fam B X) (fy : Fam B Y) : ∃ F, X F w ∧ ∀ X' w1, Turned X' F w w1 → Duo B a bx X' Y w1 := by
  obtain ⟨F, H, hx, hy, hd⟩ := h.pin
  exact ⟨F, hx, fun X' w1 ht => (hd.left fx (fy.only H) ht).mono (fun _ _ h => h) (fun _ _ h => h.2)⟩
theorem Duo.goY (h : Duo B a bx X Y w) (fx : Fam B X) (fy : Fam B Y) : ∃ F, Y F w ∧ ∀ Y' w1, Turned Y' F w w1 → Duo B a bx X Y' w1 := by
  obtain ⟨F, H, hx, hy, hd⟩ := h.pin
  exact ⟨H, hy, fun Y' w1 ht => (hd.right (fx.only F) fy ht).mono (fun _ _ h => h.2) (fun _ _ h => h)⟩
theorem Duo.getX (h : Duo B a bx (only F X) Y w) : X F w := by
  obtain ⟨⟨F', H', ⟨rfl, hx⟩, _⟩, _, _⟩ := h
  exact hx
theorem Duo.getY (h : Duo B a bx X (only H Y) w) : Y H w := h.flip.getX
theorem Duo.exX (h : Duo B a bx X Y w) : ∃ F, X F w := by obtain ⟨⟨F, H, hx, _⟩, _, _⟩ := h; exact ⟨F, hx⟩
theorem Duo.exY (h : Duo B a bx X Y w) : ∃ F, Y F w := h.flip.exX
/-- Behind some acts: of the first, of the second. -/
def Gd (B : Nat) (a : World) (bx : Option (Nat × Obj)) (X X' Y Y' : (Nat → Prop) → World → Prop) (F H : Nat → Prop) (p q : Bool) (w : World) : Prop := Duo B a bx (bif p then X' else only F X) (bif q then Y' else only H Y) w
theorem Gd.left {q : Bool} (h : Gd B a bx X X' Y Y' F H false q w) (fx : Fam B X) (fy : Fam B Y) (fy' : Fam B Y') (ht : Turned X' F w w1) : Gd B a bx X X' Y Y' F H true q w1 := by
  cases q
  · exact Duo.left (X' := X') (Y := only H Y) h fx (fy.only H) ht
  · exact Duo.left (X' := X') (Y := Y') h fx fy' ht
theorem Gd.right {p : Bool} (h : Gd B a bx X X' Y Y' F H p false w) (fx : Fam B X) (fx' : Fam B X') (fy : Fam B Y) (ht : Turned Y' H w w1) : Gd B a bx X X' Y Y' F H p true w1 := by
  cases p
  · exact Duo.right (Y' := Y') (X := only F X) h (fx.only F) fy ht
  · exact Duo.right (Y' := Y') (X := X') h fx' fy ht
theorem Gd.from {p q : Bool} (h : Gd B a bx X X' Y Y' F H p q w) (fx : Fam B X) (fx' : Fam B X') (fy : Fam B Y) (fy' : Fam B Y') (k : Below w.heap.size w w1) : Gd B a bx X X' Y Y' F H p q w1 := by
  cases p <;> cases q
  · exact Duo.from h (fx.only F) (fy.only H) k
  · exact Duo.from h (fx.only F) fy' k
  · exact Duo.from h fx' (fy.only H) k
  · exact Duo.from h fx' fy' k
theorem Gd.box {p q : Bool} {gx : Nat} {o : Obj} (h : Gd B a (some (gx, o)) X X' Y Y' F H p q w) : w.heap[gx]? = some o := Duo.box h
theorem Gd.hB {p q : Bool} (h : Gd B a bx X X' Y Y' F H p q w) : B ≤ w.heap.size := Duo.hB h
end
end Go.Proofs.Ytfijbhacobjjgah
