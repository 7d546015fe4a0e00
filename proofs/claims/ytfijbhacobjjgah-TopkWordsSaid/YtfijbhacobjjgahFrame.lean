/- Frames: which blocks may have changed; rows of strings and numbers in a block of their own. -/
import Derived.Test.YtfijbhacobjjgahWWords
import Derived.WalkKit
import Derived.Maps.AppendAt
namespace Go.Proofs.Ytfijbhacobjjgah.Fr
open Go Go.RowKit Go.Proofs.YtfijbhacobjjgahW.PrintWords
set_option linter.unusedVariables false

/-- Of what was there only the blocks of S may have changed. -/
structure Ch (S : Nat → Prop) (w w' : World) : Prop where
  os : w'.os = w.os
  tape : w'.tape = w.tape
  output : w'.output = w.output
  size : w.heap.size ≤ w'.heap.size
  block : ∀ k, k < w.heap.size → ¬ S k → w'.heap[k]? = w.heap[k]?
variable {S T : Nat → Prop} {w w1 w2 : World}
theorem Ch.refl (S : Nat → Prop) (w : World) : Ch S w w := ⟨rfl, rfl, rfl, Nat.le_refl _, fun _ _ _ => rfl⟩
theorem Ch.trans (h : Ch S w w1) (k : Ch S w1 w2) : Ch S w w2 :=
  ⟨k.os.trans h.os, k.tape.trans h.tape, k.output.trans h.output, Nat.le_trans h.size k.size, fun i hi hs => (k.block i (Nat.lt_of_lt_of_le hi h.size) hs).trans (h.block i hi hs)⟩
theorem Ch.mono (h : Ch S w w1) (k : ∀ i, i < w.heap.size → S i → T i) : Ch T w w1 := ⟨h.os, h.tape, h.output, h.size, fun i hi hs => h.block i hi fun h' => hs (k i hi h')⟩
theorem Ch.of_below (h : Below w.heap.size w w1) : Ch S w w1 := ⟨h.os, h.tape, h.output, h.size, fun i hi _ => h.block i hi⟩
theorem Ch.below (h : Ch S w w1) (hs : ∀ i, i < w.heap.size → ¬ S i) : Below w.heap.size w w1 := ⟨h.os, h.tape, h.output, h.size, fun i hi => h.block i hi (hs i hi)⟩
/-- What a call of ours changed lies from B on. -/
theorem Ch.onto {B : Nat} {a : World} (h : Below B a w) (k : Ch S w w1) (hB : B ≤ w.heap.size) (hs : ∀ i, S i → B ≤ i) : Below B a w1 :=
  h.trans ⟨k.os, k.tape, k.output, k.size, fun i hi => k.block i (by omega) fun h' => by have := hs i h'; omega⟩
theorem Ch.below_then (h : Ch S w w1) (k : Below w1.heap.size w1 w2) : Ch S w w2 := h.trans (Ch.of_below k)
theorem Ch.drew (h : Ch S w w1) : Ch S w w1.drew := ⟨h.os, h.tape, h.output, h.size, h.block⟩
theorem Ch.drewN (h : Ch S w w1) (n : Nat) : Ch S w (w1.drewN n) := ⟨h.os, h.tape, h.output, h.size, h.block⟩
theorem Ch.alloc (h : Ch S w w1) (o : Obj) : Ch S w (w1.alloc o) := h.trans ⟨rfl, rfl, rfl, by simp, fun i hi _ => Below.heap_alloc _ _ _ hi⟩
theorem Ch.set (h : Ch S w w1) {g i : Nat} {v : Value} (hg : S g) : Ch S w (w1.setCell ⟨g, i, none⟩ v) :=
  h.trans ⟨rfl, rfl, rfl, by simp [World.setCell], fun k _ hs => Below.heap_setCell _ _ _ _ (fun e => hs (e ▸ hg))⟩
theorem Ch.setNew (h : Ch S w w1) {g i : Nat} {v : Value} (hg : w.heap.size ≤ g) : Ch S w (w1.setCell ⟨g, i, none⟩ v) :=
  ⟨h.os, h.tape, h.output, by have := h.size; simp [World.setCell]; exact this, fun k hk hs => (Below.heap_setCell _ _ _ _ (fun e => by simp only at e; omega)).trans (h.block k hk hs)⟩
theorem Ch.blk (h : Ch S w w1) {g : Nat} {o : Obj} (hb : w.heap[g]? = some o) (hs : ¬ S g) : w1.heap[g]? = some o := (h.block g (blk_lt hb) hs).trans hb
theorem Ch.grown {r : Option Nat} (h : w.grownBy w1 r) (hr : ∀ k, r = some k → S k) : Ch S w w1 := ⟨h.os, h.tape, h.output, h.size, fun i hi hs => h.block i hi fun e => hs (hr i e.symm)⟩
theorem Ch.own {base n size : Nat} {e : TypeId} {v : Value} {xs : List Value} (h : Ch S w w1) (ho : w.ownsRow base e size v n xs) (hs : ∀ k, v.ownBlock = some k → ¬ S k) : w1.ownsRow base e size v n xs := by
  obtain ⟨h1, h2 | ⟨g, cap, cur, rfl, hb, hh, r⟩⟩ := ho
  · exact ⟨h1, .inl h2⟩
  · exact ⟨h1, .inr ⟨g, cap, cur, rfl, hb, h.blk hh (hs g rfl), r⟩⟩

/-- A block that holds just these strings. -/
def strs (l : List ByteArray) : Array Value := (l.map Value.string).toArray
theorem strs_get (l : List ByteArray) (i : Nat) (h : i < l.length) : (strs l)[i]? = some (.string (l.getD i ByteArray.empty)) := by
  simp [strs, h, List.getD_eq_getElem?_getD]
theorem strs_set (l : List ByteArray) (i : Nat) (s : ByteArray) : (strs l).setIfInBounds i (.string s) = strs (l.set i s) := by
  apply Array.ext'
  simp [strs, List.map_set]
theorem strs_cell {g : Nat} {t : TypeId} {l : List ByteArray} (h : w.heap[g]? = some (.cells (strs l) t (0, 0))) (i : Nat) (hi : i < l.length) : w.cell? ⟨g, i, none⟩ = some (.string (l.getD i ByteArray.empty)) :=
  (blk_cell h i).trans (strs_get l i hi)
theorem strs_put {g : Nat} {t : TypeId} {l : List ByteArray} (h : w.heap[g]? = some (.cells (strs l) t (0, 0))) (i : Nat) (s : ByteArray) : (w.setCell ⟨g, i, none⟩ (.string s)).heap[g]? = some (.cells (strs (l.set i s)) t (0, 0)) :=
  blk_put h i _ (strs_set l i s)
/-- One element more, behind a row of the call's own. -/
theorem ap_one {P : Program} {t ty e : TypeId} {z : Value} {bytes : Nat} (ht : P.underlying t = some (.slice e)) (hinfo : (P.info? e).map (fun i => (i.zero, i.size, i.bytes)) = some (some z, 1, bytes)) (hz : z.cells.size = 1) (hb0 : 0 < bytes)
    {base : Nat} {v y : Value} {xs : List Value} {k : Nat} (HO : w.ownsRow base e 1 v xs.length xs) (hk : w.heap[k]? = some (.cells #[y] e (0, 0))) (h1 : y.oneCell' = true) (hbase : base ≤ w.heap.size) (hl : (xs.length + 1) * bytes ≤ 140737488355328) :
    ∃ v1 w1, (Builtin.append_ #[t, t] ty #[v, .slice (some ⟨k, 0, none⟩) 1 1]).run P w = .ok v1 w1 ∧ w1.ownsRow base e 1 v1 (xs ++ [y]).length (xs ++ [y]) ∧ w.grownBy w1 v.ownBlock ∧ (v1.ownBlock = v.ownBlock ∨ v1.ownBlock = some w.heap.size) := by
  obtain ⟨i0, hi, hzz⟩ := Option.map_eq_some_iff.1 hinfo
  simp only [Prod.mk.injEq] at hzz
  obtain ⟨hz0, hz1, hz2⟩ := hzz
  have hlen : xs.length + 1 ≤ 140737488355328 := Nat.le_trans (Nat.le_mul_of_pos_right _ hb0) hl
  obtain ⟨v1, w1, a, b, c, _, d⟩ := run_append_own_at w base t ty e i0 z 1 bytes ht hi hz0 hz1 hz2 hz (by omega) v xs.length xs HO ⟨k, 0, none⟩ 1 1 [y] rfl (World.news_of_block (cs := #[y]) (t := e) (fr := (0, 0)) hk) (by simpa using h1) (by simp only [maxLen]; omega) hl hbase
  exact ⟨v1, w1, a, by simpa using b, c, d⟩
/-- What a row of the call's own may turn to lies from its base on. -/
theorem below_own {base n size : Nat} {e : TypeId} {v : Value} {xs : List Value} {a : World} (hb : Below base a w) (ho : w.ownsRow base e size v n xs) (hg : w.grownBy w1 v.ownBlock) (hbase : base ≤ w.heap.size) : Below base a w1 := hb.grown hg hbase (own_base ho)
/-- A builtin append, as an operation. -/
theorem append_op {P : Program} {ρ : Operand → Value} {o : Oper} {s x : Operand} {t : TypeId} {v y v1 : Value} (ho : o.op = .call { callee := .builtin .append, args := #[s, x], argTypes := #[t, t] }) (hs : ρ s = v) (hx : ρ x = y) (hrun : (Builtin.append_ #[t, t] o.type #[v, y]).run P w = .ok v1 w1) :
    (execOp ρ o).run P w = .ok (.value v1) w1 := by
  unfold execOp
  rw [ho]
  simp [resolve, invoke, builtin, hs, hx, hrun]
/-- A builtin clear, in a plain region. -/
theorem clear_step {P : Program} {ops : Array Oper} {rest : List Oper} {o : Oper} {a : Act} {Q : Exit → Act → World → Prop} {x : Operand} {t : TypeId} {y u : Value} (ho : o.op = .call { callee := .builtin .clear, args := #[x], argTypes := #[t] }) (hgd : o.guard = none) (hd : o.dst = none) (hx : a.eval x = y) (hrun : (Builtin.clear_ #[t] o.type #[y]).run P w = .ok u w1)
    (h : wpList P ops Q rest a w1) : wpList P ops Q (o :: rest) a w := by
  refine wpList_plain hgd fun K hK => ?_
  unfold Oper.wp execOp
  simp only [ho, resolve, invoke, builtin, Sem.run_bind, Sem.run_pure, Result.andThen_ok, List.map_toArray, List.map_cons, List.map_nil, hx, hrun, Oper.upon]
  rw [hd]
  exact hK _ _ h
/-- Strings as values. -/
def svals (l : List ByteArray) : List Value := l.map Value.string
theorem svals_length (l : List ByteArray) : (svals l).length = l.length := by simp [svals]
theorem svals_snoc (l : List ByteArray) (s : ByteArray) : svals l ++ [.string s] = svals (l ++ [s]) := by simp [svals]
end Go.Proofs.Ytfijbhacobjjgah.Fr
