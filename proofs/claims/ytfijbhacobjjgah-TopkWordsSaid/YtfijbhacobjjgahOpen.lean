/- Slices that were handed in, opened out of their reading: as rows of a kind. -/
import Derived.Test.YtfijbhacobjjgahVals
import Derived.SizedLaws
import Derived.ChangeSlices
import Derived.Deep.Slices
import Derived.Deep.Fields
import Derived.Deep.Strs
import Derived.Laws.IdiomArrays
namespace Go.Proofs.Ytfijbhacobjjgah.Fr
open Go Go.RowKit Go.Proofs.YtfijbhacobjjgahW.PrintWords Go.ChangeShapes Go.WideShapes
set_option linter.unusedVariables false
set_option linter.unusedSimpArgs false
/-- A kind whose values are a fixed list of cells each. -/
def flat {α : Type} (sz : Nat) (enc : α → List Value) (hl : ∀ x, (enc x).length = sz) (h1 : ∀ x, ∀ u ∈ enc x, u.oneCell' = true) : Kd α where
  sz := sz
  E := []
  K := fun _ x cs => cs = enc x
  M := fun _ _ _ x cs => cs = enc x
  K_len := fun h => by rw [h]; exact hl _
  K_one := fun h u hu => by rw [h] at hu; exact h1 _ u hu
  K_below := fun _ h => h
  K_of_M := fun h => h
  M_mono := fun _ h => h
  M_bound := fun h => h
  M_move := fun _ h => h
  M_lower := fun _ h => h
def int2 : Kd (Int × Int) := flat 2 (fun x => [.int .i64 x.1, .int .i64 x.2]) (fun _ => rfl) (fun x u hu => by simp at hu; rcases hu with rfl | rfl <;> rfl)
def int3 : Kd (Int × Int × Int) := flat 3 (fun x => [.int .i64 x.1, .int .i64 x.2.1, .int .i64 x.2.2]) (fun _ => rfl) (fun x u hu => by simp at hu; rcases hu with rfl | rfl | rfl <;> rfl)
theorem came {α H : Type} {enc : TypeId × Value → H} {P : Program} {W : World} {base : Nat} {spare : Nat → Bool} {held : Bool} {t e : TypeId} {A : Option Addr} {len cap fuel : Nat} {x : DataW H × List MemPlace}
    (d : Kd α) (Q : α → Prop) (ht : P.underlying t = some (.slice e)) (hC : P.cellsOf e = d.sz)
    (hel : ∀ n cs x, cs.length = d.sz → DataW.trod enc P W base spare held n e cs = some x → ∃ p, d.K W p cs ∧ Q p)
    (h : DataW.trod enc P W base spare held fuel t [.slice A len cap] = some x) : len ≤ cap ∧ ∃ xs, d.C W A len xs ∧ ∀ p ∈ xs, Q p := by
  rcases Go.Deep.open_slice ht h with ⟨hcs, _⟩ | ⟨a, len', cap', m, n, D, Pl, hcs, _, hl, hm9, hmm, _, hi⟩
  · cases hcs
    exact ⟨Nat.le_refl _, [], ⟨rfl, by omega, fun h => by omega⟩, fun p hp => by simp at hp⟩
  · cases hcs
    refine ⟨hl, ?_⟩
    have hle : len ≤ m := by rw [hmm]; split <;> omega
    have hall : ∀ i : Fin len, ∃ p, Q p ∧ ∃ c, c.length = d.sz ∧ d.K W p c ∧ ∀ j u, c[j]? = some u → W.cell? (a.add (i.val * d.sz + j)) = some u := fun i => by
      obtain ⟨cs', hc, ht'⟩ := hi i.val (by omega)
      rw [hC] at hc
      obtain ⟨_, hcl, hat⟩ := World.cells?_some hc
      obtain ⟨p, hk, hq⟩ := hel n cs' _ hcl ht'
      refine ⟨p, hq, cs', hcl, hk, fun j u hu => ?_⟩
      have hj : j < d.sz := by rw [List.getElem?_eq_some_iff] at hu; obtain ⟨hj, _⟩ := hu; omega
      have := hat j hj
      rw [add_add] at this
      rw [this]
      exact hu
    obtain ⟨f, hf⟩ := Classical.axiomOfChoice hall
    refine ⟨List.ofFn f, ⟨List.length_ofFn, by unfold maxLen at hm9; omega, fun h0 => ⟨a, rfl, fun j p hj => ?_⟩⟩, fun p hp => ?_⟩
    · obtain ⟨hjl, rfl⟩ := List.getElem?_eq_some_iff.1 hj
      rw [List.length_ofFn] at hjl
      rw [List.getElem_ofFn]
      exact (hf ⟨j, hjl⟩).2
    · obtain ⟨i, rfl⟩ := List.mem_ofFn.1 hp
      exact (hf i).1
theorem array2 {H : Type} {enc : TypeId × Value → H} {P : Program} {w : World} {base : Nat} {spare : Nat → Bool} {held : Bool} {t e : TypeId} {fuel : Nat} {c0 c1 : Value} {x : DataW H × List MemPlace} (ht : P.underlying t = some (.array 2 e)) (hce : P.cellsOf e = 1)
    (h : DataW.trod enc P w base spare held fuel t [c0, c1] = some x) : ∃ y0 y1 n, DataW.trod enc P w base spare held n e [c0] = some y0 ∧ DataW.trod enc P w base spare held n e [c1] = some y1 := by
  cases fuel with
  | zero => simp [DataW.trod] at h
  | succ n =>
    unfold DataW.trod at h
    rw [ht] at h
    have r2 : List.range 2 = [0, 1] := rfl
    simp [r2, hce] at h
    obtain ⟨_, h⟩ := h
    cases h0 : DataW.trod enc P w base spare held n e [c0] with
    | none => simp [h0] at h
    | some y0 =>
      cases h1 : DataW.trod enc P w base spare held n e [c1] with
      | none => simp [h0, h1] at h
      | some y1 => exact ⟨y0, y1, n, h0, h1⟩
section
variable {H : Type} {enc : TypeId × Value → H} {P : Program} {W : World} {base : Nat} {spare : Nat → Bool} {held : Bool} {t e e1 : TypeId} {A : Option Addr} {len cap fuel : Nat} {x : DataW H × List MemPlace}
theorem came_ints {k : IntKind} (ht : P.underlying t = some (.slice e)) (he : P.underlying e = some (.int k)) (hC : P.cellsOf e = 1) (h : DataW.trod enc P W base spare held fuel t [.slice A len cap] = some x) :
    len ≤ cap ∧ ∃ xs, (Kd.int k).C W A len xs ∧ ∀ p ∈ xs, (Lit.int k p).wf = true :=
  came (Kd.int k) (fun p => (Lit.int k p).wf = true) ht hC (fun n cs x _ h => by
    obtain ⟨z, e0, _, wf⟩ := DataW.trod_int he h
    exact ⟨z, e0, wf⟩) h
theorem came_int2 (ht : P.underlying t = some (.slice e)) (he : P.underlying e = some (.array 2 e1)) (he1 : P.underlying e1 = some (.int .i64)) (hC1 : P.cellsOf e1 = 1) (hC : P.cellsOf e = 2) (h : DataW.trod enc P W base spare held fuel t [.slice A len cap] = some x) :
    len ≤ cap ∧ ∃ xs, int2.C W A len xs ∧ ∀ p ∈ xs, (Lit.int .i64 p.1).wf = true ∧ (Lit.int .i64 p.2).wf = true :=
  came int2 (fun p => (Lit.int .i64 p.1).wf = true ∧ (Lit.int .i64 p.2).wf = true) ht hC (fun n cs x hl h => by
    match cs, hl with
    | [c0, c1], _ =>
      obtain ⟨y0, y1, n', t0, t1⟩ := array2 he hC1 h
      obtain ⟨z0, e0, _, wf0⟩ := DataW.trod_int he1 t0
      obtain ⟨z1, e1, _, wf1⟩ := DataW.trod_int he1 t1
      simp at e0 e1
      subst e0 e1
      exact ⟨(z0, z1), rfl, wf0, wf1⟩) h
theorem came_int3 {f0 f1 f2 : Field} (ht : P.underlying t = some (.slice e)) (he : P.underlying e = some (.struct #[f0, f1, f2])) (hone : Go.Deep.oneCellFields P #[f0, f1, f2] = true) (hC : P.cellsOf e = 3)
    (h0 : P.underlying f0.type = some (.int .i64)) (h1 : P.underlying f1.type = some (.int .i64)) (h2 : P.underlying f2.type = some (.int .i64)) (h : DataW.trod enc P W base spare held fuel t [.slice A len cap] = some x) :
    len ≤ cap ∧ ∃ xs, int3.C W A len xs ∧ ∀ p ∈ xs, (Lit.int .i64 p.1).wf = true ∧ (Lit.int .i64 p.2.1).wf = true ∧ (Lit.int .i64 p.2.2).wf = true :=
  came int3 (fun p => (Lit.int .i64 p.1).wf = true ∧ (Lit.int .i64 p.2.1).wf = true ∧ (Lit.int .i64 p.2.2).wf = true) ht hC (fun n cs x hl h => by
    match cs, hl with
    | [c0, c1, c2], _ =>
      obtain ⟨o0, k0⟩ := Go.Deep.hone_of hone 0 f0 rfl
      obtain ⟨o1, k1⟩ := Go.Deep.hone_of hone 1 f1 rfl
      obtain ⟨o2, k2⟩ := Go.Deep.hone_of hone 2 f2 rfl
      obtain ⟨y0, y1, y2, n', _, _, t0, t1, t2⟩ := Go.Deep.trod_struct3 he h
      rw [o0, k0] at t0
      rw [o1, k1] at t1
      rw [o2, k2] at t2
      obtain ⟨z0, e0, _, wf0⟩ := DataW.trod_int h0 t0
      obtain ⟨z1, e1, _, wf1⟩ := DataW.trod_int h1 t1
      obtain ⟨z2, e2, _, wf2⟩ := DataW.trod_int h2 t2
      simp at e0 e1 e2
      subst e0 e1 e2
      exact ⟨(z0, z1, z2), rfl, wf0, wf1, wf2⟩) h
theorem came_str2 {r : Reach} {b0 : Nat} {v : Value} {d : DataW H} {ps : List MemPlace} {w : World} (ht : P.underlying t = some (.array 2 e)) (he : P.underlying e = some .string) (hc : P.cellsOf e = 1) (hC : P.cellsOf t = 2) (hval : Value.okWide P w r b0 t v) (h : DataW.Trod enc P W base spare held t v d ps) :
    ∃ a b : ByteArray, v = .agg #[.string a, .string b] ∧ a.size ≤ maxLen ∧ b.size ≤ maxLen := by
  unfold Value.okWide at hval
  rw [ht] at hval
  obtain ⟨cs, rfl, hs, _⟩ := hval
  rw [hC] at hs
  obtain ⟨c0, c1, rfl⟩ : ∃ c0 c1, cs = #[c0, c1] := ⟨cs[0], cs[1], by apply Array.ext (by simpa using hs); intro i h1 h2; match i, h1 with | 0, _ => rfl | 1, _ => rfl | i + 2, h => omega⟩
  obtain ⟨fuel, hf⟩ := h
  obtain ⟨y0, y1, n, t0, t1⟩ := array2 ht hc hf
  obtain ⟨s0, e0, _, w0⟩ := DataW.trod_string he t0
  obtain ⟨s1, e1, _, w1⟩ := DataW.trod_string he t1
  simp at e0 e1
  subst e0 e1
  exact ⟨s0, s1, rfl, w0, w1⟩
theorem came_cap (ht : P.underlying t = some (.slice e)) (h : DataW.trod enc P W base spare held fuel t [.slice A len cap] = some x) : cap ≤ 9223372036854775807 := by
  rcases Go.Deep.open_slice ht h with ⟨hcs, _⟩ | ⟨a, len', cap', m, n, D, Pl, hcs, _, hl, hm9, hmm, _, hi⟩
  · cases hcs; omega
  · cases hcs; unfold maxLen at hm9; omega
theorem came_ar2 {r : Reach} {b0 : Nat} {v : Value} {d : DataW H} {ps : List MemPlace} {w : World} (ht : P.underlying t = some (.array 2 e)) (he : P.underlying e = some (.int .i64)) (hc : P.cellsOf e = 1) (hC : P.cellsOf t = 2) (hval : Value.okWide P w r b0 t v) (h : DataW.Trod enc P W base spare held t v d ps) :
    ∃ a b : Int, v = .agg #[.int .i64 a, .int .i64 b] ∧ (Lit.int .i64 a).wf = true ∧ (Lit.int .i64 b).wf = true := by
  unfold Value.okWide at hval
  rw [ht] at hval
  obtain ⟨cs, rfl, hs, _⟩ := hval
  rw [hC] at hs
  obtain ⟨c0, c1, rfl⟩ : ∃ c0 c1, cs = #[c0, c1] := ⟨cs[0], cs[1], by apply Array.ext (by simpa using hs); intro i h1 h2; match i, h1 with | 0, _ => rfl | 1, _ => rfl | i + 2, h => omega⟩
  obtain ⟨fuel, hf⟩ := h
  obtain ⟨y0, y1, n, t0, t1⟩ := array2 ht hc hf
  obtain ⟨z0, e0, _, w0⟩ := DataW.trod_int he t0
  obtain ⟨z1, e1, _, w1⟩ := DataW.trod_int he t1
  simp at e0 e1
  subst e0 e1
  exact ⟨z0, z1, rfl, w0, w1⟩
theorem came_ar3 {r : Reach} {b0 : Nat} {v : Value} {d : DataW H} {ps : List MemPlace} {w : World} (ht : P.underlying t = some (.array 3 e)) (he : P.underlying e = some (.int .i64)) (hc : P.cellsOf e = 1) (hC : P.cellsOf t = 3) (hval : Value.okWide P w r b0 t v) (h : DataW.Trod enc P W base spare held t v d ps) :
    ∃ a b c : Int, v = .agg #[.int .i64 a, .int .i64 b, .int .i64 c] ∧ (Lit.int .i64 a).wf = true ∧ (Lit.int .i64 b).wf = true ∧ (Lit.int .i64 c).wf = true := by
  unfold Value.okWide at hval
  rw [ht] at hval
  obtain ⟨cs, rfl, hs, _⟩ := hval
  rw [hC] at hs
  obtain ⟨c0, c1, c2, rfl⟩ : ∃ c0 c1 c2, cs = #[c0, c1, c2] := ⟨cs[0], cs[1], cs[2], by apply Array.ext (by simpa using hs); intro i h1 h2; match i, h1 with | 0, _ => rfl | 1, _ => rfl | 2, _ => rfl | i + 3, h => omega⟩
  obtain ⟨fuel, hf⟩ := h
  obtain ⟨y0, y1, y2, n, _, t0, t1, t2⟩ := trod_array3 ht hc hf
  obtain ⟨z0, e0, _, w0⟩ := DataW.trod_int he t0
  obtain ⟨z1, e1, _, w1⟩ := DataW.trod_int he t1
  obtain ⟨z2, e2, _, w2⟩ := DataW.trod_int he t2
  simp at e0 e1 e2
  subst e0 e1 e2
  exact ⟨z0, z1, z2, rfl, w0, w1, w2⟩
theorem wf_i64 {z : Int} (h : (Lit.int .i64 z).wf = true) : -9223372036854775808 ≤ z ∧ z ≤ 9223372036854775807 := by
  simp [Lit.wf] at h; exact h
end
end Go.Proofs.Ytfijbhacobjjgah.Fr
