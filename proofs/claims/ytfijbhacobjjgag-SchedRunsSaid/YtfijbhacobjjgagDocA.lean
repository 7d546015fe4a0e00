/- The document's schedule: how it lies. -/
import Derived.Test.YtfijbhacobjjgagDuoA
namespace Go.Proofs.Ytfijbhacobjjgag
open Go.RowKit Go.Proofs.YtfijbhacobjjgagW.PrintWords Go.Proofs.YtfijbhacobjjgagW.PrintLast Go.Proofs.YtfijbhacobjjgagW.PrintMore Go.Proofs.Ytfijbhacobjjgag.Fr
set_option linter.unusedVariables false
set_option linter.unusedSimpArgs false
attribute [local go_sem] max2_int min2_int max_two min_two

open Pl Hp
/-- A slice's address: a block and an offset, or none. -/
def ap (p : Option (Nat × Nat)) : Option Addr := p.map fun q => ⟨q.1, q.2, none⟩
/-- What lies from there on are these cells. -/
def RdC (w : World) (p : Option (Nat × Nat)) (cs : List Value) : Prop := ∀ j u, cs[j]? = some u → ∃ g o, p = some (g, o) ∧ w.cell? ⟨g, o + j, none⟩ = some u
section
variable {w w1 : World} {p : Option (Nat × Nat)} {cs : List Value} {S : Nat → Prop} {B : Nat}
theorem RdC.ch (h : RdC w p cs) (hc : Ch S w w1) (hs : ∀ q, p = some q → ¬ S q.1) : RdC w1 p cs := fun j u hu => by
  obtain ⟨g, o, rfl, h1⟩ := h j u hu
  have hlt : g < w.heap.size := World.block_lt_of_cell? w _ h1
  exact ⟨g, o, rfl, (World.cell?_of_block (w := w) (hc.block g hlt (hs _ rfl))).trans h1⟩
theorem RdC.below (h : RdC w p cs) (hb : Below w.heap.size w w1) : RdC w1 p cs := h.ch (S := fun _ => False) (Ch.of_below hb) (fun _ _ e => e)
theorem RdC.take (h : RdC w p cs) (k : Nat) : RdC w p (cs.take k) := fun j u hu => by
  rw [List.getElem?_take] at hu
  split at hu
  · exact h j u hu
  · cases hu
def cutp (c m sz : Nat) (p : Option (Nat × Nat)) : Option (Nat × Nat) := if c = m then p else p.map fun q => (q.1, q.2 + m * sz)
theorem RdC.drop (h : RdC w p cs) (c m sz : Nat) (hc : cs.length ≤ c * sz) : RdC w (cutp c m sz p) (cs.drop (m * sz)) := fun j u hu => by
  rw [List.getElem?_drop] at hu
  have hlt := (List.getElem?_eq_some_iff.1 hu).1
  obtain ⟨g, o, rfl, h1⟩ := h _ u hu
  by_cases e : c = m
  · subst e; omega
  · refine ⟨g, o + m * sz, by unfold cutp; rw [if_neg e]; rfl, ?_⟩
    rw [show o + m * sz + j = o + (m * sz + j) by omega]
    exact h1
theorem cutp_blk {c m sz : Nat} {q : Nat × Nat} (h : cutp c m sz p = some q) : ∃ q', p = some q' ∧ q'.1 = q.1 := by
  unfold cutp at h
  split at h
  · exact ⟨q, h, rfl⟩
  · cases p with
    | none => cases h
    | some q' => cases h; exact ⟨q', rfl, rfl⟩
theorem cutp_none {c m sz : Nat} (h : cutp c m sz p = none) : p = none := by
  unfold cutp at h
  split at h
  · exact h
  · cases p with
    | none => rfl
    | some q' => cases h
theorem ap_cutp (c m sz : Nat) : (if c = m then ap p else (ap p).map (·.add (m * sz))) = ap (cutp c m sz p) := by
  unfold cutp
  split
  · rfl
  · cases p with
    | none => rfl
    | some q =>
      simp only [ap, Option.map_some]
      congr 1
      unfold Addr.add
      split
      · rename_i h; rw [h]; rfl
      · rfl
theorem own_rdc {e : TypeId} {sz n : Nat} {v : Value} (h : w.ownsRow B e sz v n cs) : ∃ p c, v = .slice (ap p) n c ∧ n ≤ c ∧ RdC w p cs ∧ (∀ q, p = some q → v.ownBlock = some q.1) ∧ (p = none → c = 0) := by
  rcases h.2 with ⟨rfl, h0⟩ | ⟨g, cap, cur, rfl, hb, hh, hn, hc, hs, ht⟩
  · refine ⟨none, 0, by rw [h0]; rfl, by omega, fun j u hu => ?_, fun q e => (by cases e), fun _ => rfl⟩
    have := h.1
    have hlt := (List.getElem?_eq_some_iff.1 hu).1
    rw [h0] at this; omega
  · refine ⟨some (g, 0), cap, rfl, hn, fun j u hu => ⟨g, 0, rfl, ?_⟩, fun q e => (by cases e; rfl), fun e => (by cases e)⟩
    rw [blk_cell hh, ← Array.getElem?_toList, Nat.zero_add]
    have hlt := (List.getElem?_eq_some_iff.1 hu).1
    have e : (cur.toList.take (n * sz))[j]? = cs[j]? := by rw [ht]
    rw [List.getElem?_take, if_pos (by rw [← h.1]; exact hlt)] at e
    rw [e, hu]
end
theorem acs_get (l : List Ac) (i j : Nat) (d : Ac) (hi : i < l.length) (hj : j < 5) : (acs l)[i * 5 + j]? = (ac (l.getD i d))[j]? := by
  induction l generalizing i with
  | nil => simp at hi
  | cons e r ih =>
    have hcons : acs (e :: r) = ac e ++ acs r := rfl
    have hl : ∀ e, (ac e).length = 5 := fun _ => rfl
    cases i with
    | zero => rw [hcons, List.getElem?_append_left (by rw [hl]; omega)]; simp
    | succ i =>
      rw [hcons, List.getElem?_append_right (by rw [hl]; omega), hl, show (i + 1) * 5 + j - 5 = i * 5 + j by omega, ih i (by simpa using hi)]
      simp
theorem acs_drop (l : List Ac) (k : Nat) : acs (l.drop k) = (acs l).drop (k * 5) := by
  induction k generalizing l with
  | zero => simp
  | succ k ih =>
    cases l with
    | nil => simp [acs]
    | cons e r =>
      rw [List.drop_succ_cons, ih, show acs (e :: r) = ac e ++ acs r from rfl, show (k + 1) * 5 = 5 + k * 5 by omega, ← List.drop_drop]
      rfl
theorem acs_take (l : List Ac) (k : Nat) : acs (l.take k) = (acs l).take (k * 5) := by
  induction k generalizing l with
  | zero => simp [acs]
  | succ k ih =>
    cases l with
    | nil => simp [acs]
    | cons e r =>
      rw [List.take_succ_cons, show acs (e :: r.take k) = ac e ++ acs (r.take k) from rfl, ih, show acs (e :: r) = ac e ++ acs r from rfl, show (k + 1) * 5 = 5 + k * 5 by omega, List.take_append, List.take_of_length_le (l := ac e) (by simp [ac])]
      simp [ac]
def tms (D : List E) : List Value := D.map fun e => .int .i64 e.t
def aas (D : List E) : List Value := acs (D.map (·.a))
theorem tms_len (D : List E) : (tms D).length = D.length := by simp [tms]
theorem aas_len (D : List E) : (aas D).length = D.length * 5 := by simp [aas, acs_len]
theorem RdC.act {w : World} {p : Option (Nat × Nat)} {l : List Ac} (h : RdC w p (acs l)) (i : Nat) (hi : i < l.length) : ∃ g o, p = some (g, o) ∧ ∃ x, l[i]? = some x ∧ w.cell? ⟨g, o + i * 5, none⟩ = some (.int .i64 x.k) ∧ w.cell? ⟨g, o + i * 5 + 1, none⟩ = some (.int .i64 x.nd) ∧ w.cell? ⟨g, o + i * 5 + 2, none⟩ = some (.int .i64 x.n) ∧ w.cell? ⟨g, o + i * 5 + 3, none⟩ = some (.bool x.up) ∧ w.cell? ⟨g, o + i * 5 + 4, none⟩ = some (.string x.s) := by
  have hx := List.getElem?_eq_getElem hi
  have hd : ∀ d, l.getD i d = l[i] := fun d => by rw [List.getD_eq_getElem?_getD, hx]; rfl
  have hg : ∀ j u, j < 5 → (ac l[i])[j]? = some u → ∃ g o, p = some (g, o) ∧ w.cell? ⟨g, o + (i * 5 + j), none⟩ = some u := fun j u hj hu => h _ u (by rw [acs_get l i j l[i] hi hj, hd]; exact hu)
  obtain ⟨g, o, rfl, h0⟩ := hg 0 _ (by omega) rfl
  have hg2 : ∀ j u, j < 5 → (ac l[i])[j]? = some u → w.cell? ⟨g, o + i * 5 + j, none⟩ = some u := fun j u hj hu => by
    obtain ⟨g', o', e, h1⟩ := hg j u hj hu
    cases e
    rw [Nat.add_assoc]; exact h1
  exact ⟨g, o, rfl, _, hx, hg2 0 _ (by omega) rfl, hg2 1 _ (by omega) rfl, hg2 2 _ (by omega) rfl, hg2 3 _ (by omega) rfl, hg2 4 _ (by omega) rfl⟩
theorem RdC.tm {w : World} {p : Option (Nat × Nat)} {D : List E} (h : RdC w p (tms D)) (i : Nat) (hi : i < D.length) : ∃ g o, p = some (g, o) ∧ w.cell? ⟨g, o + i, none⟩ = some (.int .i64 (D.getD i ez).t) :=
  h i _ (by unfold tms; rw [List.getElem?_map, List.getElem?_eq_getElem hi, List.getD_eq_getElem?_getD, List.getElem?_eq_getElem hi]; rfl)
/-- The document's schedule. -/
structure DS (B : Nat) (w : World) (b : Nat) (pa pt : Option (Nat × Nat)) (ca ct : Nat) (now : Int) (D : List E) : Prop where
  box : w.heap[b]? = some (.cells #[.int .i64 now, .slice (ap pa) D.length ca, .slice (ap pt) D.length ct] 38 (0, 0))
  ra : RdC w pa (aas D)
  rt : RdC w pt (tms D)
  la : D.length ≤ ca
  lt : D.length ≤ ct
  ba : ∀ q, pa = some q → q.1 ≠ b ∧ B ≤ q.1 ∧ q.1 < w.heap.size
  bt : ∀ q, pt = some q → q.1 ≠ b ∧ B ≤ q.1 ∧ q.1 < w.heap.size
  na : pa = none → ca = 0
  nt : pt = none → ct = 0
  lo : B ≤ b
def FY (b : Nat) (pa pt : Option (Nat × Nat)) (i : Nat) : Prop := i = b ∨ (∃ q, pa = some q ∧ q.1 = i) ∨ (∃ q, pt = some q ∧ q.1 = i)
def YD (B b : Nat) (now : Int) (D : List E) (F : Nat → Prop) (w : World) : Prop := ∃ pa pt ca ct, DS B w b pa pt ca ct now D ∧ F = FY b pa pt
section
variable {B b : Nat} {w w1 : World} {pa pt : Option (Nat × Nat)} {ca ct : Nat} {now : Int} {D : List E} {S : Nat → Prop}
theorem DS.ch (h : DS B w b pa pt ca ct now D) (hc : Ch S w w1) (hs : ∀ i, FY b pa pt i → ¬ S i) : DS B w1 b pa pt ca ct now D :=
  ⟨hc.blk h.box (hs b (.inl rfl)), h.ra.ch hc (fun q e => hs _ (.inr (.inl ⟨q, e, rfl⟩))), h.rt.ch hc (fun q e => hs _ (.inr (.inr ⟨q, e, rfl⟩))), h.la, h.lt, fun q e => ⟨(h.ba q e).1, (h.ba q e).2.1, Nat.lt_of_lt_of_le (h.ba q e).2.2 hc.size⟩, fun q e => ⟨(h.bt q e).1, (h.bt q e).2.1, Nat.lt_of_lt_of_le (h.bt q e).2.2 hc.size⟩, h.na, h.nt, h.lo⟩
theorem DS.below (h : DS B w b pa pt ca ct now D) (hb : Below w.heap.size w w1) : DS B w1 b pa pt ca ct now D := h.ch (S := fun _ => False) (Ch.of_below hb) (fun _ _ e => e)
theorem fam_yd : Fam B (YD B b now D) where
  lt := by
    rintro F w i ⟨pa, pt, ca, ct, h, rfl⟩ (e | ⟨q, e, rfl⟩ | ⟨q, e, rfl⟩)
    · exact e ▸ ⟨blk_lt h.box, h.lo⟩
    · exact ⟨(h.ba q e).2.2, (h.ba q e).2.1⟩
    · exact ⟨(h.bt q e).2.2, (h.bt q e).2.1⟩
  ch := by
    rintro F w w' S ⟨pa, pt, ca, ct, h, rfl⟩ hc hs
    exact ⟨pa, pt, ca, ct, h.ch hc hs, rfl⟩
end
end Go.Proofs.Ytfijbhacobjjgag
