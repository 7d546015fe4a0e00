/- Rows of numbers: how they read, of the call's own or handed in. -/
import Derived.Test.YtfijbhacobjjgahVals
namespace Go.Proofs.Ytfijbhacobjjgah.Fr
open Go Go.RowKit Go.Proofs.YtfijbhacobjjgahW.PrintWords
set_option linter.unusedVariables false
set_option linter.unusedSimpArgs false
variable {w w1 : World} {k : IntKind}
/-- The slice that begins at A reads as these numbers. -/
def RdK (k : IntKind) (w : World) (A : Option Addr) (l : List Int) : Prop := ∀ i, i < l.length → ∃ ad, A = some ad ∧ w.cell? (ad.add i) = some (.int k (l.getD i 0))
theorem RdK.below {A : Option Addr} {l : List Int} (h : RdK k w A l) (hb : Below w.heap.size w w1) : RdK k w1 A l := fun i hi => by
  obtain ⟨ad, e, hc⟩ := h i hi
  exact ⟨ad, e, pw_cell_below hb hc⟩
theorem RdK.drawn {A : Option Addr} {l : List Int} (h : RdK k w A l) (hb : Drawn0 w w1) : RdK k w1 A l := by obtain ⟨⟨n, rfl⟩⟩ := hb; exact h
theorem RdK.nil (A : Option Addr) : RdK k w A [] := fun i hi => by simp at hi
theorem rdk_of {A : Option Addr} {n : Nat} {l : List Int} (h : (Kd.int k).C w A n l) : l.length = n ∧ RdK k w A l := by
  refine ⟨h.1, fun i hi => ?_⟩
  obtain ⟨ad, e, hc⟩ := h.2.2 (by have := h.1; omega)
  obtain ⟨cs, hs, hr, hcell⟩ := hc i _ (List.getElem?_eq_getElem hi)
  refine ⟨ad, e, ?_⟩
  obtain rfl : cs = [.int k l[i]] := hr
  have := hcell 0 _ rfl
  rw [show i * (Kd.int k).sz + 0 = i from Nat.mul_one i] at this
  rw [this, List.getD_eq_getElem?_getD, List.getElem?_eq_getElem hi]
  rfl
theorem own_nums {base n : Nat} {e : TypeId} {v : Value} {l : List Int} (h : w.ownsRow base e 1 v n (nums k l)) : ∃ A c, v = .slice A l.length c ∧ l.length ≤ c ∧ ∀ i, i < l.length → ∃ g, A = some ⟨g, 0, none⟩ ∧ w.cell? ⟨g, i, none⟩ = some (.int k (l.getD i 0)) := by
  have hl : l.length = n := by have := h.1; rw [nums_length, Nat.mul_one] at this; exact this
  subst hl
  rcases h.2 with ⟨rfl, h0⟩ | ⟨g, cap, cur, rfl, hb, hh, hn, hc, hs, ht⟩
  · refine ⟨none, 0, by rw [h0], by omega, fun i hi => by omega⟩
  · refine ⟨_, cap, rfl, hn, fun i hi => ⟨g, rfl, ?_⟩⟩
    rw [blk_cell hh]
    have e1 : cur.toList.take l.length = nums k l := by simpa using ht
    have e2 : (cur.toList.take l.length)[i]? = (nums k l)[i]? := by rw [e1]
    rw [List.getElem?_take, if_pos hi] at e2
    rw [← Array.getElem?_toList, e2]
    simp [nums, hi, List.getD_eq_getElem?_getD]
theorem own_rdk {B n c : Nat} {e : TypeId} {A : Option Addr} {l : List Int} (h : w.ownsRow B e 1 (.slice A l.length c) n (nums k l)) : RdK k w A l := by
  obtain ⟨A1, c1, e, _, hr⟩ := own_nums h
  cases e
  intro i hi
  obtain ⟨g, rfl, hc⟩ := hr i hi
  exact ⟨⟨g, 0, none⟩, rfl, by
    rw [show (⟨g, 0, none⟩ : Addr).add i = ⟨g, i, none⟩ by unfold Addr.add; split <;> simp_all]
    exact hc⟩
theorem own_capM {B n m c sz : Nat} {e : TypeId} {A : Option Addr} {l : List Value} (h : w.ownsRow B e sz (.slice A m c) n l) : c ≤ 9223372036854775807 := by
  rcases h.2 with ⟨e, _⟩ | ⟨g, cap, cur, e, hb, hh, hn, hc, hs, ht⟩
  · cases e; omega
  · cases e
    unfold maxLen at hc
    omega
theorem own_blk {B n sz : Nat} {e : TypeId} {v : Value} {l : List Value} (h : w.ownsRow B e sz v n l) : ∀ b, v.ownBlock = some b → B ≤ b := by
  intro b hb
  obtain ⟨h1, h2 | ⟨g, cap, cur, rfl, hB, hh, r⟩⟩ := h
  · rw [h2.1] at hb; cases hb
  · cases hb; exact hB
theorem own_le {B B' n sz : Nat} {e : TypeId} {v : Value} {xs : List Value} (h : w.ownsRow B e sz v n xs) (hB : B' ≤ B) : w.ownsRow B' e sz v n xs := by
  obtain ⟨h1, h2 | ⟨g, cap, cur, r0, hb, r⟩⟩ := h
  · exact ⟨h1, .inl h2⟩
  · exact ⟨h1, .inr ⟨g, cap, cur, r0, Nat.le_trans hB hb, r⟩⟩
theorem nums_snoc (k : IntKind) (l : List Int) (x : Int) : nums k l ++ [.int k x] = nums k (l ++ [x]) := by simp [nums]
/-- A row of numbers that a call answered. -/
def NumsPost (k : IntKind) (e0 : TypeId) (l : List Int) (w : World) (e : Ending) (w' : World) : Prop := ∃ v, e = .returned v ∧ w'.ownsRow w.heap.size e0 1 v l.length (nums k l) ∧ Below w.heap.size w w'
theorem drawn_trans {w2 : World} (h : Drawn0 w w1) (k : Drawn0 w1 w2) : Drawn0 w w2 := by obtain ⟨⟨n, rfl⟩⟩ := h; obtain ⟨⟨m, rfl⟩⟩ := k; exact ⟨⟨n + m, by rw [World.drewN_drewN]⟩⟩
theorem Blk.drawn {α : Type} {enc : α → Value} {g : Nat} {t : TypeId} {l : List α} (h : Blk w g t enc l) (hd : Drawn0 w w1) : Blk w1 g t enc l := by obtain ⟨⟨n, rfl⟩⟩ := hd; exact h
theorem drawn_below {B : Nat} {w2 : World} (h : Below B w w1) (hd : Drawn0 w1 w2) : Below B w w2 := by obtain ⟨⟨n, rfl⟩⟩ := hd; exact pw_below_drewN h n
end Go.Proofs.Ytfijbhacobjjgah.Fr
