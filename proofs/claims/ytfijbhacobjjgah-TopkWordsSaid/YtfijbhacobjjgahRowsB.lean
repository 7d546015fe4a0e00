/- Rows: appending; reading from anywhere. -/
import Derived.Test.YtfijbhacobjjgahHalfA
import Derived.Test.YtfijbhacobjjgahNums
namespace Go.Proofs.Ytfijbhacobjjgah
open Go.RowKit Go.Proofs.YtfijbhacobjjgahW.PrintWords Go.Proofs.YtfijbhacobjjgahW.PrintLast Go.Proofs.YtfijbhacobjjgahW.PrintMore Go.Proofs.Ytfijbhacobjjgah.Fr
set_option linter.unusedVariables false
set_option linter.unusedSimpArgs false
attribute [local go_sem] max2_int min2_int max_two min_two
theorem app_cells {P : Program} {ops : Array Oper} {rest : List Oper} {o : Oper} {a : Act} {Q : Exit → Act → World → Prop} {w0 W : World} (base : Nat) (hgd : o.guard = none) (s x : Operand) (t e : TypeId) (z : Value) (size bytes : Nat) (k : Nat)
    (ho : o.op = .call { callee := .builtin .append, args := #[s, x], argTypes := #[t, t] })
    (ht : P.underlying t = some (.slice e)) (hinfo : (P.info? e).map (fun i => (i.zero, i.size, i.bytes)) = some (some z, size, bytes)) (hz : z.cells.size = size) (hs0 : 0 < size) (hb0 : 0 < bytes)
    (v : Value) (n : Nat) (xs ys : List Value) (hs : a.eval s = v) (hx : a.eval x = .slice (some ⟨k, 0, none⟩) 1 1) (hk : W.heap.size = k) (hys : ys.length = size) (h1 : ∀ u ∈ ys, u.oneCell' = true)
    (HO : W.ownsRow base e size v n xs) (HB : Below base w0 W) (hbase : base ≤ k) (hl : (n + 1) * bytes ≤ 140737488355328)
    (h : ∀ v1 w1, w1.ownsRow base e size v1 (n + 1) (xs ++ ys) → Below base w0 w1 → W.grownBy w1 v.ownBlock → (v1.ownBlock = v.ownBlock ∨ ∃ b, v1.ownBlock = some b ∧ k ≤ b) → wpList P ops Q rest (a.put o.dst v1) w1) :
    wpList P ops Q (o :: rest) a (W.alloc (.cells ys.toArray e)) := by
  subst hk
  exact print_append_cells base hgd s x t e z size bytes ho ht hinfo hz hs0 hb0 v n xs ys hs hx hys h1 HO HB hbase hl h
open Pl Hp
/-- A slice's address: a block and an offset, or none. -/
def ap (p : Option (Nat × Nat)) : Option Addr := p.map fun q => ⟨q.1, q.2, none⟩
/-- What lies from there on are these cells. -/
def RdC (w : World) (p : Option (Nat × Nat)) (cs : List Value) : Prop := ∀ j u, cs[j]? = some u → ∃ g o, p = some (g, o) ∧ w.cell? ⟨g, o + j, none⟩ = some u
section
variable {w w1 : World} {p : Option (Nat × Nat)} {cs : List Value} {S : Nat → Prop} {B : Nat}
theorem RdC.ch (h : RdC w p cs) (hc : Ch S w w1) (hs : ∀ q, p = some q → ¬ S q.1) : RdC w1 p cs := fun j u hu => by
  obtain ⟨g, o, rfl, h1⟩ := h j u hu
  have hlt : g < w.heap.size := World.block_lt_of_cell? w _ h1
  exact ⟨g, o, rfl, (World.cell?_of_block (w := w) (hc.block g hlt (hs _ rfl))).trans h1⟩
theorem RdC.below (h : RdC w p cs) (hb : Below w.heap.size w w1) : RdC w1 p cs := h.ch (S := fun _ => False) (Ch.of_below hb) (fun _ _ e => e)
theorem RdC.take (h : RdC w p cs) (k : Nat) : RdC w p (cs.take k) := fun j u hu => by
  rw [List.getElem?_take] at hu
  split at hu
  · exact h j u hu
  · cases hu
theorem own_rdc {e : TypeId} {sz n : Nat} {v : Value} (h : w.ownsRow B e sz v n cs) : ∃ p c, v = .slice (ap p) n c ∧ n ≤ c ∧ RdC w p cs ∧ (∀ q, p = some q → v.ownBlock = some q.1) ∧ (p = none → c = 0) := by
  rcases h.2 with ⟨rfl, h0⟩ | ⟨g, cap, cur, rfl, hb, hh, hn, hc, hs, ht⟩
  · refine ⟨none, 0, by rw [h0]; rfl, by omega, fun j u hu => ?_, fun q e => (by cases e), fun _ => rfl⟩
    have := h.1
    have hlt := (List.getElem?_eq_some_iff.1 hu).1
    rw [h0] at this; omega
  · refine ⟨some (g, 0), cap, rfl, hn, fun j u hu => ⟨g, 0, rfl, ?_⟩, fun q e => (by cases e; rfl), fun e => (by cases e)⟩
    rw [blk_cell hh, ← Array.getElem?_toList, Nat.zero_add]
    have hlt := (List.getElem?_eq_some_iff.1 hu).1
    have e : (cur.toList.take (n * sz))[j]? = cs[j]? := by rw [ht]
    rw [List.getElem?_take, if_pos (by rw [← h.1]; exact hlt)] at e
    rw [e, hu]
end
theorem own_keep {w w1 : World} {B sz n : Nat} {e : TypeId} {v : Value} {xs : List Value} {r : Option Nat} (h : w.ownsRow B e sz v n xs) (hg : w.grownBy w1 r) (hr : ∀ k, v.ownBlock = some k → r ≠ some k) : w1.ownsRow B e sz v n xs :=
  (Ch.grown (S := fun k => r = some k) hg (fun k e => e)).own h (fun k e => hr k e)
theorem own_two {w : World} {B B' sz sz' n n' : Nat} {e e' : TypeId} {v v' : Value} {xs xs' : List Value} (h : w.ownsRow B e sz v n xs) (h' : w.ownsRow B' e' sz' v' n' xs') (hne : e ≠ e') : ∀ k, v.ownBlock = some k → v'.ownBlock ≠ some k := fun k e1 e2 => by
  obtain ⟨c1, h1⟩ := own_typed h k e1
  obtain ⟨c2, h2⟩ := own_typed h' k e2
  rw [h1] at h2
  injection h2 with h2
  injection h2 with _ h2
  exact hne h2
theorem ents_snoc (l : List E) (x : E) : ents l ++ enc x = ents (l ++ [x]) := by simp [ents]
theorem infoI : (Try.prog.info? 47).map (fun i => (i.zero, i.size, i.bytes)) = some (some (.agg #[.string ByteArray.empty, .int .i64 0]), 2, 24) := by kernel_rfl
theorem own_someI {w : World} {B : Nat} {v : Value} {l : List E} {x : E} (h : w.ownsRow B 47 2 v (l ++ [x]).length (ents (l ++ [x]))) : ∃ g c, v = .slice (some ⟨g, 0, none⟩) (l ++ [x]).length c ∧ B ≤ g := by
  rcases h.2 with ⟨_, h0⟩ | ⟨g, cap, cur, rfl, hb, _⟩
  · simp at h0
  · exact ⟨g, cap, rfl, hb⟩
theorem RdC.item {w : World} {p : Option (Nat × Nat)} {l : List E} (h : RdC w p (ents l)) (i : Nat) (hi : i < l.length) : ∃ g o, p = some (g, o) ∧ w.cell? ⟨g, o + i * 2, none⟩ = some (.string (l.getD i ez).t) ∧ w.cell? ⟨g, o + i * 2 + 1, none⟩ = some (.int .i64 (l.getD i ez).c) := by
  obtain ⟨g, o, rfl, h0⟩ := h (i * 2 + 0) _ (by rw [ents_get l i 0 hi (by omega)]; rfl)
  obtain ⟨g', o', e, h1⟩ := h (i * 2 + 1) _ (by rw [ents_get l i 1 hi (by omega)]; rfl)
  cases e
  exact ⟨g, o, rfl, h0, by rw [Nat.add_assoc]; exact h1⟩
end Go.Proofs.Ytfijbhacobjjgah
