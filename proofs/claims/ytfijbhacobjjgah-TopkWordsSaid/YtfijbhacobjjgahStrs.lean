/- Slices of strings: how they read, of the call's own or handed in; a handed-in one opened out of its reading. -/
import Derived.Test.YtfijbhacobjjgahFrame
import Derived.SizedLaws
import Derived.ChangeSlices
import Derived.SliceStrings
namespace Go.Proofs.Ytfijbhacobjjgah.Fr
open Go Go.RowKit Go.Proofs.YtfijbhacobjjgahW.PrintWords Go.ChangeShapes Go.WideShapes
set_option linter.unusedVariables false
set_option linter.unusedSimpArgs false

/-- The slice that begins at A reads as these strings. -/
def RdS (w : World) (A : Option Addr) (l : List ByteArray) : Prop := ∀ i, i < l.length → ∃ ad, A = some ad ∧ w.cell? (ad.add i) = some (.string (l.getD i ByteArray.empty))
variable {w w1 : World} {S : Nat → Prop}
theorem RdS.below {A : Option Addr} {l : List ByteArray} (h : RdS w A l) (hb : Below w.heap.size w w1) : RdS w1 A l := fun i hi => by
  obtain ⟨ad, e, hc⟩ := h i hi
  exact ⟨ad, e, pw_cell_below hb hc⟩
theorem RdS.ch {A : Option Addr} {l : List ByteArray} (h : RdS w A l) (hc : Ch S w w1) (hs : ∀ ad, A = some ad → ¬ S ad.block) : RdS w1 A l := fun i hi => by
  obtain ⟨ad, e, hc'⟩ := h i hi
  refine ⟨ad, e, ?_⟩
  have hlt : (ad.add i).block < w.heap.size := World.block_lt_of_cell? w _ hc'
  rw [World.cell?_of_block (w := w) (hc.block _ hlt (by rw [add_block]; exact hs ad e))]
  exact hc'
theorem RdS.drewN {A : Option Addr} {l : List ByteArray} (h : RdS w A l) (n : Nat) : RdS (w.drewN n) A l := h
theorem RdS.take {A : Option Addr} {l : List ByteArray} (h : RdS w A l) (k : Nat) : RdS w A (l.take k) := fun i hi => by
  rw [List.length_take] at hi
  obtain ⟨ad, e, hc⟩ := h i (by omega)
  refine ⟨ad, e, ?_⟩
  rw [hc]
  simp [List.getD_eq_getElem?_getD, List.getElem?_take, show i < k by omega]
theorem RdS.drop {A : Option Addr} {l : List ByteArray} (h : RdS w A l) (k : Nat) : RdS w (A.map (·.add k)) (l.drop k) := fun i hi => by
  rw [List.length_drop] at hi
  obtain ⟨ad, e, hc⟩ := h (k + i) (by omega)
  refine ⟨ad.add k, by rw [e]; rfl, ?_⟩
  rw [add_add, hc]
  simp [List.getD_eq_getElem?_getD]
theorem own_rds {base n : Nat} {e : TypeId} {v : Value} {l : List ByteArray} (h : w.ownsRow base e 1 v n (svals l)) : ∃ A c, v = .slice A l.length c ∧ l.length ≤ c ∧ RdS w A l := by
  have hl : l.length = n := by have := h.1; rw [svals_length, Nat.mul_one] at this; exact this
  subst hl
  rcases h.2 with ⟨rfl, h0⟩ | ⟨g, cap, cur, rfl, hb, hh, hn, hc, hs, ht⟩
  · refine ⟨none, 0, by rw [h0], by omega, fun i hi => by omega⟩
  · refine ⟨_, cap, rfl, hn, fun i hi => ⟨_, rfl, ?_⟩⟩
    rw [Go.Proofs.YtfijbhacobjjgahW.PrintWords.add_plain, blk_cell hh]
    have e1 : cur.toList.take l.length = svals l := by simpa using ht
    have e2 : (cur.toList.take l.length)[i]? = (svals l)[i]? := by rw [e1]
    rw [List.getElem?_take, if_pos hi] at e2
    rw [← Array.getElem?_toList, e2]
    simp [svals, hi, List.getD_eq_getElem?_getD]

theorem own_row {base n : Nat} {e : TypeId} {v : Value} {l : List ByteArray} (h : w.ownsRow base e 1 v n (svals l)) (h0 : 0 < l.length) : ∃ g c, v = .slice (some ⟨g, 0, none⟩) l.length c ∧ base ≤ g ∧ l.length ≤ c ∧ (∀ i, i < l.length → w.cell? ⟨g, i, none⟩ = some (.string (l.getD i ByteArray.empty))) ∧ (∀ i, w.frozen? ⟨g, i, none⟩ = false) := by
  have hl : l.length = n := by have := h.1; rw [svals_length, Nat.mul_one] at this; exact this
  obtain ⟨A, c, e1, hc, hr⟩ := own_rds h
  rcases h.2 with ⟨rfl, hn⟩ | ⟨g, cap, cur, rfl, hb, hh, _⟩
  · omega
  · cases e1
    refine ⟨g, _, rfl, hb, hc, fun i hi => ?_, fun i => blk_frozen hh i⟩
    obtain ⟨ad, e2, hcell⟩ := hr i hi
    cases e2
    rwa [Go.Proofs.YtfijbhacobjjgahW.PrintWords.add_plain] at hcell
/-- A store into a row of strings of the call's own. -/
theorem own_put {base n : Nat} {e : TypeId} {g c : Nat} {l : List ByteArray} (h : w.ownsRow base e 1 (.slice (some ⟨g, 0, none⟩) l.length c) n (svals l)) (i : Nat) (hi : i < l.length) (s : ByteArray) : (w.setCell ⟨g, i, none⟩ (.string s)).ownsRow base e 1 (.slice (some ⟨g, 0, none⟩) (l.set i s).length c) n (svals (l.set i s)) := by
  obtain ⟨h1, h2 | ⟨g', cap, cur, e1, hb, hh, hn, hc, hs, ht⟩⟩ := h
  · cases h2.1
  · cases e1
    refine ⟨by rw [svals_length, List.length_set] at *; exact h1, .inr ⟨g, c, _, by rw [List.length_set], hb, blk_set hh i _, hn, hc, by simpa using hs, ?_⟩⟩
    rw [Array.toList_setIfInBounds, List.take_set, ht]
    simp [svals, List.map_set]
/-- A slice of strings that was handed in: its length, its reading, no string beyond the form's reach. -/
def IsStrs (w : World) (a : Option Addr) (len cap : Nat) (l : List ByteArray) : Prop := l.length = len ∧ len ≤ cap ∧ cap ≤ 9223372036854775807 ∧ RdS w a l ∧ (∀ s ∈ l, s.size ≤ 140737488351232) ∧ (∀ ad, a = some ad → 0 < len → ad.block < w.heap.size)
theorem weights_all {H : Type} {P : Program} {e : TypeId} : ∀ {ds : List (DataW H)} {d : DataW H}, d ∈ ds → ∀ n ∈ d.weights P e, n ∈ DataW.weightsAll P e ds
  | [], _, h, _, _ => by cases h
  | d0 :: ds, d, h, n, hn => by
    simp only [DataW.weightsAll, List.mem_append]
    rcases List.mem_cons.1 h with rfl | h
    · exact .inl hn
    · exact .inr (weights_all h n hn)
theorem is_strs {H : Type} {enc : TypeId × Value → H} {P : Program} {W : World} {base : Nat} {spare : Nat → Bool} {held : Bool} {t e : TypeId} {a : Option Addr} {len cap : Nat} {d : DataW H} {ps : List MemPlace} {ts : List TypeId} {ds : List (DataW H)} {j : Nat}
    (hsz : (DataW.weightsEach P ts ds).all (· ≤ reachBytes) = true) (ht : ts[j]? = some t) (hd : ds[j]? = some d) (hu : P.underlying t = some (.slice e)) (he : P.underlying e = some .string) (hc : P.cellsOf e = 1)
    (h : DataW.Trod enc P W base spare held t (.slice a len cap) d ps) : ∃ l : List ByteArray, IsStrs W a len cap l := by
  obtain ⟨fuel, hf⟩ := h
  rcases open_strings hu he hc hf with ⟨hcs, _⟩ | ⟨x, l, c, ss, hcs, _, hl, hm, hz, hx, hcell, _⟩
  · simp [Value.cells] at hcs
    obtain ⟨rfl, rfl, rfl⟩ := hcs
    exact ⟨[], rfl, Nat.le_refl _, by decide, fun i hi => by simp at hi, fun s hs => by simp at hs, fun ad e => by cases e⟩
  · simp [Value.cells] at hcs
    obtain ⟨rfl, rfl, rfl⟩ := hcs
    have hl2 : len ≤ ss.length := by
      rw [hz]
      split
      · exact hl
      · exact Nat.le_refl _
    obtain ⟨hx, _⟩ := Prod.mk.inj hx
    subst hx
    have hget : ∀ i, i < len → (ss.take len).getD i ByteArray.empty = ss.getD i ByteArray.empty := fun i hi => by simp [List.getD_eq_getElem?_getD, List.getElem?_take, hi]
    refine ⟨ss.take len, by simp; omega, hl, by simpa [maxLen] using hm, fun i hi => ⟨x, rfl, ?_⟩, fun s hs => ?_, fun ad e h0 => ?_⟩
    · rw [List.length_take] at hi
      rw [hget i (by omega)]
      exact hcell i (by omega)
    · have hw : s.data.toList.length ∈ (DataW.lit (.string s.data.toList) : DataW H).weights P e := by simp [DataW.weights]
      have hin : (DataW.lit (.string s.data.toList) : DataW H) ∈ (ChangeShapes.strs (ss.take len) : List (DataW H)) := List.mem_map.2 ⟨s, hs, rfl⟩
      have hwa := weights_all (P := P) (e := e) hin _ hw
      have := List.all_eq_true.1 hsz _ (DataW.weights_mem_each ht hd s.data.toList.length (by
        simp only [DataW.weights, hu, List.mem_cons, List.mem_append]
        exact .inr (.inl hwa)))
      have h2 : s.data.toList.length = s.size := by rw [Array.length_toList]; rfl
      rw [h2] at this
      have h3 : reachBytes = 140737488351232 := by decide
      rw [h3] at this
      simpa using this
    · cases e
      have h1 := hcell 0 (by omega)
      have := World.block_lt_of_cell? W _ h1
      rwa [add_block] at this
theorem str_beq (x y : ByteArray) : (x.toList == y.toList) = decide (x = y) := by
  by_cases h : x = y
  · subst h; simp
  · simp only [h, decide_false]
    rw [beq_eq_false_iff_ne]
    intro e
    apply h
    rw [ByteArray.toList_eq, ByteArray.toList_eq] at e
    exact bytes_inj e
end Go.Proofs.Ytfijbhacobjjgah.Fr
