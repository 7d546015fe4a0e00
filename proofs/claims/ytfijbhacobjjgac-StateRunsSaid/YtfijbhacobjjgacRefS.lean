/- The document's state: what it has; how it is turned. -/
import Derived.Test.YtfijbhacobjjgacStateH
import Derived.Maps.Views
namespace Go.Proofs.Ytfijbhacobjjgac
open Go.RowKit Go.Proofs.YtfijbhacobjjgacW.PrintWords Go.Proofs.YtfijbhacobjjgacW.PrintLast Go.Proofs.YtfijbhacobjjgacW.PrintMore Go.Proofs.Ytfijbhacobjjgac.Fr
set_option linter.unusedVariables false
set_option linter.unusedSimpArgs false
attribute [local go_sem] max2_int min2_int max_two min_two

open Go.Maps
/-- The document's state: what it has, in blocks of its own. -/
structure RS (B : Nat) (w : World) (b : Nat) (rv dv ev tv : Value) (rs ds : List ByteArray) (es : List Int) (ts : List ByteArray) : Prop where
  box : w.heap[b]? = some (.cells #[rv, dv, ev, tv] 39 (0, 0))
  rcs : w.ownsRow B 9 1 rv (svals rs).length (svals rs)
  dsk : w.ownsRow B 9 1 dv (svals ds).length (svals ds)
  eps : w.ownsRow B 3 1 ev es.length (nums .i64 es)
  txs : w.ownsRow B 9 1 tv (svals ts).length (svals ts)
  lo : B ≤ b
  nr : some b ≠ rv.ownBlock
  nd : some b ≠ dv.ownBlock
  ne : some b ≠ ev.ownBlock
  nt : some b ≠ tv.ownBlock
  rd : ∀ k, rv.ownBlock = some k → dv.ownBlock ≠ some k
  re : ∀ k, rv.ownBlock = some k → ev.ownBlock ≠ some k
  rt : ∀ k, rv.ownBlock = some k → tv.ownBlock ≠ some k
  de : ∀ k, dv.ownBlock = some k → ev.ownBlock ≠ some k
  dt : ∀ k, dv.ownBlock = some k → tv.ownBlock ≠ some k
  et : ∀ k, ev.ownBlock = some k → tv.ownBlock ≠ some k
section
variable {B : Nat} {w w1 : World} {b : Nat} {rv dv ev tv v1 : Value} {rs ds ts l1 : List ByteArray} {es e1 : List Int} {S : Nat → Prop}
theorem RS.ch (h : RS B w b rv dv ev tv rs ds es ts) (hc : Ch S w w1) (s : ¬ S b) (s0 : ∀ k, rv.ownBlock = some k → ¬ S k) (s1 : ∀ k, dv.ownBlock = some k → ¬ S k) (s2 : ∀ k, ev.ownBlock = some k → ¬ S k) (s3 : ∀ k, tv.ownBlock = some k → ¬ S k) : RS B w1 b rv dv ev tv rs ds es ts :=
  ⟨hc.blk h.box s, hc.own h.rcs s0, hc.own h.dsk s1, hc.own h.eps s2, hc.own h.txs s3, h.lo, h.nr, h.nd, h.ne, h.nt, h.rd, h.re, h.rt, h.de, h.dt, h.et⟩
theorem RS.put0 (h : RS B w b rv dv ev tv rs ds es ts) (hc : Ch S w w1) (s : ¬ S b) (s1 : ∀ k, dv.ownBlock = some k → ¬ S k) (s2 : ∀ k, ev.ownBlock = some k → ¬ S k) (s3 : ∀ k, tv.ownBlock = some k → ¬ S k) (ho : w1.ownsRow B 9 1 v1 (svals l1).length (svals l1)) (hat : ∀ k, v1.ownBlock = some k → rv.ownBlock = some k ∨ w.heap.size ≤ k) : RS B (w1.setCell ⟨b, 0, none⟩ v1) b v1 dv ev tv l1 ds es ts := by
  have hg := blk_lt h.box
  have e1' : some b ≠ v1.ownBlock := fun e => by rcases hat b e.symm with e2 | e2; exact h.nr e2.symm; omega
  refine ⟨blk_put (hc.blk h.box s) 0 _ rfl, own_setCell ho e1' _, own_setCell (hc.own h.dsk s1) h.nd _, own_setCell (hc.own h.eps s2) h.ne _, own_setCell (hc.own h.txs s3) h.nt _, h.lo, e1', h.nd, h.ne, h.nt, ?_, ?_, ?_, h.de, h.dt, h.et⟩
  · intro k e e2
    rcases hat k e with e3 | e3
    · exact h.rd k e3 e2
    · have := own_lt h.dsk _ e2; omega
  · intro k e e2
    rcases hat k e with e3 | e3
    · exact h.re k e3 e2
    · have := own_lt h.eps _ e2; omega
  · intro k e e2
    rcases hat k e with e3 | e3
    · exact h.rt k e3 e2
    · have := own_lt h.txs _ e2; omega
theorem RS.put1 (h : RS B w b rv dv ev tv rs ds es ts) (hc : Ch S w w1) (s : ¬ S b) (s0 : ∀ k, rv.ownBlock = some k → ¬ S k) (s2 : ∀ k, ev.ownBlock = some k → ¬ S k) (s3 : ∀ k, tv.ownBlock = some k → ¬ S k) (ho : w1.ownsRow B 9 1 v1 (svals l1).length (svals l1)) (hat : ∀ k, v1.ownBlock = some k → dv.ownBlock = some k ∨ w.heap.size ≤ k) : RS B (w1.setCell ⟨b, 1, none⟩ v1) b rv v1 ev tv rs l1 es ts := by
  have hg := blk_lt h.box
  have e1' : some b ≠ v1.ownBlock := fun e => by rcases hat b e.symm with e2 | e2; exact h.nd e2.symm; omega
  refine ⟨blk_put (hc.blk h.box s) 1 _ rfl, own_setCell (hc.own h.rcs s0) h.nr _, own_setCell ho e1' _, own_setCell (hc.own h.eps s2) h.ne _, own_setCell (hc.own h.txs s3) h.nt _, h.lo, h.nr, e1', h.ne, h.nt, ?_, h.re, h.rt, ?_, ?_, h.et⟩
  · intro k e e2
    rcases hat k e2 with e3 | e3
    · exact h.rd k e e3
    · have := own_lt h.rcs _ e; omega
  · intro k e e2
    rcases hat k e with e3 | e3
    · exact h.de k e3 e2
    · have := own_lt h.eps _ e2; omega
  · intro k e e2
    rcases hat k e with e3 | e3
    · exact h.dt k e3 e2
    · have := own_lt h.txs _ e2; omega
theorem RS.put2 (h : RS B w b rv dv ev tv rs ds es ts) (hc : Ch S w w1) (s : ¬ S b) (s0 : ∀ k, rv.ownBlock = some k → ¬ S k) (s1 : ∀ k, dv.ownBlock = some k → ¬ S k) (s3 : ∀ k, tv.ownBlock = some k → ¬ S k) (ho : w1.ownsRow B 3 1 v1 e1.length (nums .i64 e1)) (hat : ∀ k, v1.ownBlock = some k → ev.ownBlock = some k ∨ w.heap.size ≤ k) : RS B (w1.setCell ⟨b, 2, none⟩ v1) b rv dv v1 tv rs ds e1 ts := by
  have hg := blk_lt h.box
  have e1' : some b ≠ v1.ownBlock := fun e => by rcases hat b e.symm with e2 | e2; exact h.ne e2.symm; omega
  refine ⟨blk_put (hc.blk h.box s) 2 _ rfl, own_setCell (hc.own h.rcs s0) h.nr _, own_setCell (hc.own h.dsk s1) h.nd _, own_setCell ho e1' _, own_setCell (hc.own h.txs s3) h.nt _, h.lo, h.nr, h.nd, e1', h.nt, h.rd, ?_, h.rt, ?_, h.dt, ?_⟩
  · intro k e e2
    rcases hat k e2 with e3 | e3
    · exact h.re k e e3
    · have := own_lt h.rcs _ e; omega
  · intro k e e2
    rcases hat k e2 with e3 | e3
    · exact h.de k e e3
    · have := own_lt h.dsk _ e; omega
  · intro k e e2
    rcases hat k e with e3 | e3
    · exact h.et k e3 e2
    · have := own_lt h.txs _ e2; omega
theorem RS.put3 (h : RS B w b rv dv ev tv rs ds es ts) (hc : Ch S w w1) (s : ¬ S b) (s0 : ∀ k, rv.ownBlock = some k → ¬ S k) (s1 : ∀ k, dv.ownBlock = some k → ¬ S k) (s2 : ∀ k, ev.ownBlock = some k → ¬ S k) (ho : w1.ownsRow B 9 1 v1 (svals l1).length (svals l1)) (hat : ∀ k, v1.ownBlock = some k → tv.ownBlock = some k ∨ w.heap.size ≤ k) : RS B (w1.setCell ⟨b, 3, none⟩ v1) b rv dv ev v1 rs ds es l1 := by
  have hg := blk_lt h.box
  have e1' : some b ≠ v1.ownBlock := fun e => by rcases hat b e.symm with e2 | e2; exact h.nt e2.symm; omega
  refine ⟨blk_put (hc.blk h.box s) 3 _ rfl, own_setCell (hc.own h.rcs s0) h.nr _, own_setCell (hc.own h.dsk s1) h.nd _, own_setCell (hc.own h.eps s2) h.ne _, own_setCell ho e1' _, h.lo, h.nr, h.nd, h.ne, e1', h.rd, h.re, ?_, h.de, ?_, ?_⟩
  · intro k e e2
    rcases hat k e2 with e3 | e3
    · exact h.rt k e e3
    · have := own_lt h.rcs _ e; omega
  · intro k e e2
    rcases hat k e2 with e3 | e3
    · exact h.dt k e e3
    · have := own_lt h.dsk _ e; omega
  · intro k e e2
    rcases hat k e2 with e3 | e3
    · exact h.et k e e3
    · have := own_lt h.eps _ e; omega
theorem RS.below (h : RS B w b rv dv ev tv rs ds es ts) (hb : Below w.heap.size w w1) : RS B w1 b rv dv ev tv rs ds es ts := h.ch (S := fun _ => False) (Ch.of_below hb) (fun h => h) (fun _ _ h => h) (fun _ _ h => h) (fun _ _ h => h) (fun _ _ h => h)
theorem num_put {w : World} {base n : Nat} {e : TypeId} {k : IntKind} {g c : Nat} {l : List Int} (h : w.ownsRow base e 1 (.slice (some ⟨g, 0, none⟩) l.length c) n (nums k l)) (i : Nat) (hi : i < l.length) (x : Int) : (w.setCell ⟨g, i, none⟩ (.int k x)).ownsRow base e 1 (.slice (some ⟨g, 0, none⟩) (l.set i x).length c) n (nums k (l.set i x)) := by
  obtain ⟨h1, h2 | ⟨g', cap, cur, e1, hb, hh, hn, hc, hs, ht⟩⟩ := h
  · cases h2.1
  · cases e1
    refine ⟨by rw [nums_length, List.length_set] at *; exact h1, .inr ⟨g, c, _, by rw [List.length_set], hb, blk_set hh i _, hn, hc, by simpa using hs, ?_⟩⟩
    rw [Array.toList_setIfInBounds, List.take_set, ht]
    simp [nums, List.map_set]
theorem RS.over2 {g c : Nat} (h : RS B w b rv dv (.slice (some ⟨g, 0, none⟩) es.length c) tv rs ds es ts) (i : Nat) (hi : i < es.length) (x : Int) : RS B (w.setCell ⟨g, i, none⟩ (.int .i64 x)) b rv dv (.slice (some ⟨g, 0, none⟩) es.length c) tv rs ds (es.set i x) ts :=
  ⟨blk_far h.box (p := ⟨g, i, none⟩) (fun e => h.ne (congrArg some e)) _, own_setCell h.rcs (fun e => h.re g e.symm rfl) _, own_setCell h.dsk (fun e => h.de g e.symm rfl) _, by have := num_put h.eps i hi x; rw [List.length_set] at this ⊢; exact this, own_setCell h.txs (fun e => h.et g rfl e.symm) _, h.lo, h.nr, h.nd, h.ne, h.nt, h.rd, h.re, h.rt, h.de, h.dt, h.et⟩
theorem RS.over3 {g c : Nat} (h : RS B w b rv dv ev (.slice (some ⟨g, 0, none⟩) ts.length c) rs ds es ts) (i : Nat) (hi : i < ts.length) (s : ByteArray) : RS B (w.setCell ⟨g, i, none⟩ (.string s)) b rv dv ev (.slice (some ⟨g, 0, none⟩) ts.length c) rs ds es (ts.set i s) :=
  ⟨blk_far h.box (p := ⟨g, i, none⟩) (fun e => h.nt (congrArg some e)) _, own_setCell h.rcs (fun e => h.rt g e.symm rfl) _, own_setCell h.dsk (fun e => h.dt g e.symm rfl) _, own_setCell h.eps (fun e => h.et g e.symm rfl) _, by have := own_put h.txs i hi s; simp only [svals_length, List.length_set] at this ⊢; exact this, h.lo, h.nr, h.nd, h.ne, h.nt, h.rd, h.re, h.rt, h.de, h.dt, h.et⟩
theorem RS.slices (h : RS B w b rv dv ev tv rs ds es ts) : (∃ A c, rv = .slice A rs.length c ∧ rs.length ≤ c ∧ RdS w A rs) ∧ (∃ A c, dv = .slice A ds.length c ∧ ds.length ≤ c ∧ RdS w A ds) ∧ (∃ A c, ev = .slice A es.length c ∧ es.length ≤ c ∧ RdK .i64 w A es) ∧ ∃ A c, tv = .slice A ts.length c ∧ ts.length ≤ c ∧ RdS w A ts :=
  ⟨own_rds h.rcs, own_rds h.dsk, (by obtain ⟨A, c, rfl, hc, _⟩ := own_nums h.eps; exact ⟨A, c, rfl, hc, own_rdk h.eps⟩), own_rds h.txs⟩
end
theorem getD_set {α : Type} (l : List α) (k i : Nat) (x d : α) (h : k < l.length) : (l.set k x).getD i d = if i = k then x else l.getD i d := by
  by_cases e : i = k
  · subst e; simp [List.getD_eq_getElem?_getD, h]
  · rw [if_neg e]; simp [List.getD_eq_getElem?_getD, Ne.symm e]
theorem getD_snoc {α : Type} (l : List α) (i : Nat) (x d : α) (h : i < l.length + 1) : (l ++ [x]).getD i d = if i = l.length then x else l.getD i d := by
  by_cases e : i = l.length
  · subst e; simp [List.getD_eq_getElem?_getD]
  · rw [if_neg e]; simp [List.getD_eq_getElem?_getD, List.getElem?_append_left (show i < l.length by omega)]
/-- The map's datum is the document's epochs and texts. -/
structure Rel (D : DW) (es : List Int) (ts : List ByteArray) : Prop where
  tidy : Tidy D
  len : ts.length = es.length
  le : es.length ≤ 8
  pos : ∀ i, i < es.length → 1 ≤ es.getD i 0
  inj : ∀ i j, i < es.length → j < es.length → es.getD i 0 = es.getD j 0 → i = j
  has : ∀ x, Maps.has D (.int .i64 x) = true ↔ ∃ i, i < es.length ∧ es.getD i 0 = x
  txt : ∀ i, i < es.length → D.atKey (.int .i64 (es.getD i 0)) (.lit (.string [])) = .lit (.string (ts.getD i ByteArray.empty).data.toList)
  sz : Maps.size D = es.length
theorem rel_empty : Rel (.map []) [] [] := ⟨tidy_empty, rfl, by decide, by simp, by simp, by simp [Maps.has], by simp, rfl⟩
section
variable {D : DW} {es : List Int} {ts : List ByteArray} {x : Int} {s : ByteArray} {k : Nat}
theorem ik (x : Int) : WideAt.IsKeyLit (.int .i64 x) := by simp [WideAt.IsKeyLit]
theorem ne_key {x y : Int} (h : y ≠ x) : (Lit.int .i64 y) ≠ (Lit.int .i64 x) := fun e => h (by cases e; rfl)
theorem Rel.same (h : Rel D es ts) (hk : k < es.length) (he : es.getD k 0 = x) : Rel (D.put (.int .i64 x) (.lit (.string s.data.toList))) es (ts.set k s) := by
  have hh : Maps.has D (.int .i64 x) = true := (h.has x).2 ⟨k, hk, he⟩
  refine ⟨h.tidy.put (ik _) _, by simp [h.len], h.le, h.pos, h.inj, fun y => ?_, fun i hi => ?_, by rw [size_put h.tidy, if_pos hh]; exact h.sz⟩
  · by_cases e : y = x
    · subst e
      rw [has_put_same h.tidy.isMap (ik _)]
      exact ⟨fun _ => ⟨k, hk, he⟩, fun _ => rfl⟩
    · rw [has_put_other (ne_key e)]; exact h.has y
  · rw [getD_set _ _ _ _ _ (by rw [h.len]; exact hk)]
    by_cases e : i = k
    · subst e
      rw [he, if_pos rfl]
      exact atKey_put_same h.tidy.isMap (ik _) _ _
    · rw [if_neg e, atKey_put_other (ne_key (fun e2 => e (h.inj i k hi hk (e2.trans he.symm))))]
      exact h.txt i hi
theorem Rel.add (h : Rel D es ts) (hx : Maps.has D (.int .i64 x) = false) (h8 : es.length < 8) (h1 : 1 ≤ x) : Rel (D.put (.int .i64 x) (.lit (.string s.data.toList))) (es ++ [x]) (ts ++ [s]) := by
  have hn : ∀ i, i < es.length → es.getD i 0 ≠ x := fun i hi e => by rw [(h.has x).2 ⟨i, hi, e⟩] at hx; cases hx
  have hl : (es ++ [x]).length = es.length + 1 := by simp
  refine ⟨h.tidy.put (ik _) _, by simp [h.len], by omega, fun i hi => ?_, fun i j hi hj e => ?_, fun y => ?_, fun i hi => ?_, by rw [size_put h.tidy, hx, hl]; simp [h.sz]⟩
  · rw [getD_snoc _ _ _ _ (by omega)]; split
    · exact h1
    · exact h.pos i (by omega)
  · rw [getD_snoc _ _ _ _ (by omega), getD_snoc _ _ _ _ (by omega)] at e
    split at e <;> split at e
    · omega
    · exact absurd e.symm (hn j (by omega))
    · exact absurd e (hn i (by omega))
    · exact h.inj i j (by omega) (by omega) e
  · by_cases e : y = x
    · subst e
      rw [has_put_same h.tidy.isMap (ik _)]
      exact ⟨fun _ => ⟨es.length, by omega, by rw [getD_snoc _ _ _ _ (by omega), if_pos rfl]⟩, fun _ => rfl⟩
    · rw [has_put_other (ne_key e), h.has y]
      constructor
      · rintro ⟨i, hi, e2⟩
        exact ⟨i, by omega, by rw [getD_snoc _ _ _ _ (by omega), if_neg (by omega)]; exact e2⟩
      · rintro ⟨i, hi, e2⟩
        rw [getD_snoc _ _ _ _ (by omega)] at e2
        split at e2
        · exact absurd e2.symm e
        · exact ⟨i, by omega, e2⟩
  · rw [getD_snoc _ _ _ _ (by omega), getD_snoc _ _ _ _ (by rw [h.len]; omega), h.len]
    by_cases e : i = es.length
    · rw [if_pos e, if_pos e]
      exact atKey_put_same h.tidy.isMap (ik _) _ _
    · rw [if_neg e, if_neg e, atKey_put_other (ne_key (hn i (by omega)))]
      exact h.txt i (by omega)
theorem Rel.swap (h : Rel D es ts) (hx : Maps.has D (.int .i64 x) = false) (hk : k < es.length) (h1 : 1 ≤ x) : Rel ((D.del (.int .i64 (es.getD k 0))).put (.int .i64 x) (.lit (.string s.data.toList))) (es.set k x) (ts.set k s) := by
  have hn : ∀ i, i < es.length → es.getD i 0 ≠ x := fun i hi e => by rw [(h.has x).2 ⟨i, hi, e⟩] at hx; cases hx
  have hl : (es.set k x).length = es.length := by simp
  have hT := h.tidy.del (.int .i64 (es.getD k 0))
  have hhk := (h.has (es.getD k 0)).2 ⟨k, hk, rfl⟩
  have hx2 : Maps.has (D.del (.int .i64 (es.getD k 0))) (.int .i64 x) = false := by rw [has_del_other (ne_key (Ne.symm (hn k hk)))]; exact hx
  have hsz := size_del (k := .int .i64 (es.getD k 0)) h.tidy
  rw [hhk] at hsz
  refine ⟨hT.put (ik _) _, by simp [h.len], by have := h.le; omega, fun i hi => ?_, fun i j hi hj e => ?_, fun y => ?_, fun i hi => ?_, by rw [size_put hT, hx2, hl]; simp at hsz ⊢; have := h.sz; omega⟩
  · rw [getD_set _ _ _ _ _ hk]; split
    · exact h1
    · exact h.pos i (by omega)
  · rw [getD_set _ _ _ _ _ hk, getD_set _ _ _ _ _ hk] at e
    split at e <;> split at e
    · omega
    · exact absurd e.symm (hn j (by omega))
    · exact absurd e (hn i (by omega))
    · exact h.inj i j (by omega) (by omega) e
  · by_cases e : y = x
    · subst e
      rw [has_put_same hT.isMap (ik _)]
      exact ⟨fun _ => ⟨k, by omega, by rw [getD_set _ _ _ _ _ hk, if_pos rfl]⟩, fun _ => rfl⟩
    · rw [has_put_other (ne_key e)]
      by_cases e2 : y = es.getD k 0
      · rw [e2, has_del_same]
        constructor
        · intro e; cases e
        · rintro ⟨i, hi, e3⟩
          rw [getD_set _ _ _ _ _ hk] at e3
          split at e3
          · exact absurd (e3.trans e2.symm).symm e
          · exact absurd (h.inj i k (by omega) hk e3) (by assumption)
      · rw [has_del_other (ne_key e2), h.has y]
        constructor
        · rintro ⟨i, hi, e3⟩
          exact ⟨i, by omega, by rw [getD_set _ _ _ _ _ hk, if_neg (fun e4 => e2 (by rw [← e3, e4]))]; exact e3⟩
        · rintro ⟨i, hi, e3⟩
          rw [getD_set _ _ _ _ _ hk] at e3
          split at e3
          · exact absurd e3.symm e
          · exact ⟨i, by omega, e3⟩
  · rw [getD_set _ _ _ _ _ hk, getD_set _ _ _ _ _ (by rw [h.len]; exact hk)]
    by_cases e : i = k
    · rw [if_pos e, if_pos e]
      exact atKey_put_same hT.isMap (ik _) _ _
    · rw [if_neg e, if_neg e, atKey_put_other (ne_key (hn i (by omega))), atKey_del_other (ne_key (fun e2 => e (h.inj i k (by omega) hk e2)))]
      exact h.txt i (by omega)
theorem fold_le (r : List Int) : ∀ a : Int, r.foldl min a ≤ a ∧ ∀ y ∈ r, r.foldl min a ≤ y := by
  induction r with
  | nil => intro a; exact ⟨Int.le_refl _, by simp⟩
  | cons x r ih =>
    intro a
    obtain ⟨h1, h2⟩ := ih (min a x)
    refine ⟨by simp only [List.foldl_cons]; omega, fun y hy => ?_⟩
    simp only [List.foldl_cons]
    rcases List.mem_cons.1 hy with rfl | hy
    · omega
    · exact h2 y hy
theorem minOf_le (l : List Int) : ∀ y ∈ l, Lib.minOf l ≤ y := (fold_le l _).2
/-- What the document's Keep leaves. -/
def RKept (es : List Int) (ts : List ByteArray) (x : Int) (s : ByteArray) (r : Int) (es1 : List Int) (ts1 : List ByteArray) : Prop :=
  if x < 1 then r = 1 ∧ es1 = es ∧ ts1 = ts else if 256 < s.size then r = 5 ∧ es1 = es ∧ ts1 = ts else r = 0 ∧
    ((∃ k, k < es.length ∧ es.getD k 0 = x ∧ es1 = es.set k x ∧ ts1 = ts.set k s) ∨
     ((∀ i, i < es.length → es.getD i 0 ≠ x) ∧ es.length ≠ 8 ∧ es1 = es ++ [x] ∧ ts1 = ts ++ [s]) ∨
     ((∀ i, i < es.length → es.getD i 0 ≠ x) ∧ es.length = 8 ∧ ∃ k, k < 8 ∧ (∀ j, j < 8 → es.getD k 0 ≤ es.getD j 0) ∧ es1 = es.set k x ∧ ts1 = ts.set k s))
theorem set_same (hk : k < es.length) (he : es.getD k 0 = x) : es.set k x = es := by
  have : es[k] = x := by simpa [List.getD_eq_getElem?_getD, hk] using he
  rw [← this]; exact List.set_getElem_self hk
theorem Rel.kept {r r2 : Int} {D1 : DW} {es1 : List Int} {ts1 : List ByteArray} (h : Rel D es ts) (hM : ∀ y, y ∈ intKeys D ↔ Maps.has D (.int .i64 y) = true) (h1 : Kept D x s r D1) (h2 : RKept es ts x s r2 es1 ts1) : r = r2 ∧ Rel D1 es1 ts1 := by
  unfold Kept at h1
  unfold RKept at h2
  by_cases c1 : x < 1
  · rw [if_pos c1] at h1 h2
    obtain ⟨rfl, rfl⟩ := h1
    obtain ⟨rfl, rfl, rfl⟩ := h2
    exact ⟨rfl, h⟩
  rw [if_neg c1] at h1 h2
  by_cases c2 : 256 < s.size
  · rw [if_pos c2] at h1 h2
    obtain ⟨rfl, rfl⟩ := h1
    obtain ⟨rfl, rfl, rfl⟩ := h2
    exact ⟨rfl, h⟩
  rw [if_neg c2] at h1 h2
  obtain ⟨rfl, D0, rfl, hD⟩ := h1
  obtain ⟨rfl, hE⟩ := h2
  refine ⟨rfl, ?_⟩
  have hx1 : 1 ≤ x := by omega
  have no : (∀ i, i < es.length → es.getD i 0 ≠ x) → Maps.has D (.int .i64 x) = false := fun hn => by
    cases hb : Maps.has D (.int .i64 x)
    · rfl
    · obtain ⟨i, hi, e⟩ := (h.has x).1 hb
      exact absurd e (hn i hi)
  have hsz := h.sz
  have hle := h.le
  rcases hE with ⟨k, hk, he, rfl, rfl⟩ | ⟨hn, h8, rfl, rfl⟩ | ⟨hn, h8, k, hk, hm, rfl, rfl⟩
  · rw [set_same hk he]
    rcases hD with ⟨rfl, _⟩ | ⟨hf, _⟩
    · exact h.same hk he
    · rw [(h.has x).2 ⟨k, hk, he⟩] at hf; cases hf
  · rcases hD with ⟨rfl, _⟩ | ⟨_, hf, _⟩
    · exact h.add (no hn) (by omega) hx1
    · omega
  · rcases hD with ⟨rfl, hf⟩ | ⟨_, _, ss, hp, rfl⟩
    · rw [no hn] at hf; rcases hf with hf | hf
      · cases hf
      · omega
    · have hne : ss ≠ [] := by
        intro e
        subst e
        have hmem := (hM (es.getD 0 0)).2 ((h.has _).2 ⟨0, by omega, rfl⟩)
        have := hp.mem_iff.2 hmem
        simp at this
      have hmin : Lib.minOf ss = es.getD k 0 := by
        obtain ⟨i, hi, e⟩ := (h.has _).1 ((hM _).1 (hp.mem_iff.1 (min_mem ss hne)))
        have a1 := minOf_le ss (es.getD k 0) (hp.mem_iff.2 ((hM _).2 ((h.has _).2 ⟨k, by omega, rfl⟩)))
        have a2 := hm i (by omega)
        omega
      rw [hmin]
      exact h.swap (no hn) (by omega) hx1
/-- The greatest epoch of the document's. -/
def RLast (es : List Int) (m : Int) : Prop := 0 ≤ m ∧ (∀ i, i < es.length → es.getD i 0 ≤ m) ∧ (m = 0 ∨ ∃ i, i < es.length ∧ es.getD i 0 = m)
theorem Rel.last {m m2 : Int} (h : Rel D es ts) (h1 : IsLast D m) (h2 : RLast es m2) : m = m2 := by
  have a1 : m ≤ m2 := by
    rcases h1.2.2 with e | e
    · have := h2.1; omega
    · obtain ⟨i, hi, e2⟩ := (h.has m).1 e
      have := h2.2.1 i hi
      omega
  have a2 : m2 ≤ m := by
    rcases h2.2.2 with e | ⟨i, hi, e⟩
    · have := h1.1; omega
    · exact h1.2.1 m2 ((h.has m2).2 ⟨i, hi, e⟩)
  omega
end

end Go.Proofs.Ytfijbhacobjjgac
