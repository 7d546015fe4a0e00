/- TopkRuns: the two tables side by side. -/
import Derived.Test.YtfijbhacobjjgahDuoA
namespace Go.Proofs.Ytfijbhacobjjgah
open Go.RowKit Go.Proofs.YtfijbhacobjjgahW.PrintWords Go.Proofs.YtfijbhacobjjgahW.PrintLast Go.Proofs.YtfijbhacobjjgahW.PrintMore Go.Proofs.Ytfijbhacobjjgah.Fr
set_option linter.unusedVariables false
set_option linter.unusedSimpArgs false
attribute [local go_sem] max2_int min2_int max_two min_two

open Pl Hp Go.Maps
def FX (g md : Nat) (i : Nat) : Prop := i = g ∨ i = md
def FY (b : Nat) (v : Value) (i : Nat) : Prop := i = b ∨ some i = v.ownBlock
def XT (B g md room : Nat) (L : List It) (F : Nat → Prop) (w : World) : Prop := ∃ D, TB B w g md room D L ∧ F = FX g md
def YT (B b room : Nat) (L : List It) (F : Nat → Prop) (w : World) : Prop := ∃ v, DT B w b room v L ∧ F = FY b v
/-- The document's, its row named. -/
def YP (B b room : Nat) (v : Value) (L : List It) (F : Nat → Prop) (w : World) : Prop := DT B w b room v L ∧ F = FY b v
section
variable {B g md b room : Nat} {w w1 : World} {L L1 : List It} {F : Nat → Prop} {v v1 : Value}
theorem fam_xt : Fam B (XT B g md room L) where
  lt := by
    rintro F w i ⟨D, h, rfl⟩ (e | e)
    · exact e ▸ ⟨blk_lt h.box, h.lo⟩
    · exact e ▸ ⟨h.map.lt, h.lom⟩
  ch := by
    rintro F w w' S ⟨D, h, rfl⟩ hc hS
    exact ⟨D, h.ch hc (hS g (.inl rfl)) (hS md (.inr rfl)), rfl⟩
theorem fam_yp : Fam B (YP B b room v L) where
  lt := by
    rintro F w i ⟨h, rfl⟩ (e | e)
    · exact e ▸ ⟨blk_lt h.box, h.lo⟩
    · exact ⟨own_lt h.row i e.symm, own_base h.row i e.symm⟩
  ch := by
    rintro F w w' S ⟨h, rfl⟩ hc hS
    exact ⟨h.ch hc (hS b (.inl rfl)) (fun k e => hS k (.inr e.symm)), rfl⟩
theorem fam_yt : Fam B (YT B b room L) where
  lt := by
    rintro F w i ⟨v, h⟩ hi
    exact fam_yp.lt F w i h hi
  ch := by
    rintro F w w' S ⟨v, h⟩ hc hS
    exact ⟨v, fam_yp.ch F w w' S h hc hS⟩
theorem turned_x {D : DW} (h : TB B w1 g md room D L1) (hc : Ch (fun i => i = md) w w1) : Turned (XT B g md room L1) (FX g md) w w1 :=
  ⟨FX g md, ⟨D, h, rfl⟩, hc.mono (fun i _ e => .inr e), fun i e => .inl e⟩
theorem turned_y (h : DT B w1 b room v1 L1) (hc : Ch (fun i => i = b ∨ some i = v.ownBlock) w w1) (hv : ∀ k, v1.ownBlock = some k → v.ownBlock = some k ∨ w.heap.size ≤ k) : Turned (YT B b room L1) (FY b v) w w1 := by
  refine ⟨FY b v1, ⟨v1, h, rfl⟩, hc, ?_⟩
  rintro i (e | e)
  · exact .inl (.inl e)
  · rcases hv i e.symm with h2 | h2
    · exact .inl (.inr h2.symm)
    · exact .inr h2
/-! the program's -/
theorem add_x (s : ByteArray) (hs : s.size ≤ 20) (wt : Int) (h : XT B g md room L F w) : Calls Try.prog 9 #[.pointer (some ⟨g, 0, none⟩), .string s, .int .i64 wt] w fun e w' => e = .returned (.bool (addL room s wt L).2) ∧ Turned (XT B g md room (addL room s wt L).1) F w w' := by
  obtain ⟨D, h, rfl⟩ := h
  refine (tadd_any s (by omega) wt w h).mono ?_
  rintro e w1 ⟨D1, rfl, h1, hc⟩
  exact ⟨rfl, turned_x h1 hc⟩
theorem halve_x (h : XT B g md room L F w) : Calls Try.prog 11 #[.pointer (some ⟨g, 0, none⟩)] w fun e w' => e = .returned (.int .i64 ((L.length : Int) - (halL L).length)) ∧ Turned (XT B g md room (halL L)) F w w' := by
  obtain ⟨D, h, rfl⟩ := h
  refine (thalve_any w h).mono ?_
  rintro e w1 ⟨D1, rfl, h1, hc⟩
  exact ⟨rfl, turned_x h1 hc⟩
theorem top_x (k : Int) (h : XT B g md room L F w) : Calls Try.prog 14 #[.pointer (some ⟨g, 0, none⟩), .int .i64 k] w (TopPost L k w) := by
  obtain ⟨D, h, rfl⟩ := h
  exact ttop_any k w h
theorem len_x {m : Nat} (hm : L.length = m) (h : XT B g md room L F w) : Calls Try.prog 16 #[.pointer (some ⟨g, 0, none⟩)] w fun e w' => e = .returned (.int .i64 m) ∧ w = w' := by
  obtain ⟨D, h, rfl⟩ := h
  rw [← hm]; exact tlen_any h
theorem count_x {n : Int} {s : ByteArray} (hn : cnt s L = n) (hs : s.size ≤ 20) (h : XT B g md room L F w) : Calls Try.prog 17 #[.pointer (some ⟨g, 0, none⟩), .string s] w fun e w' => e = .returned (.int .i64 n) ∧ w = w' := by
  obtain ⟨D, h, rfl⟩ := h
  rw [← hn]; exact tcount_any h s (by omega)
/-! the document's -/
theorem add_y (s : ByteArray) (wt : Int) (h : YT B b room L F w) (hB : B ≤ w.heap.size) (hw : WL room L) (hr : room ≤ 1000) : Calls Try.prog 10 #[.pointer (some ⟨b, 0, none⟩), .string s, .int .i64 wt] w fun e w' => e = .returned (.bool (addL room s wt L).2) ∧ Turned (YT B b room (addL room s wt L).1) F w w' := by
  obtain ⟨v, h, rfl⟩ := h
  refine (radd_any s wt w h hB hw hr).mono ?_
  rintro e w1 ⟨v1, rfl, h1, hc, hv⟩
  exact ⟨rfl, turned_y h1 hc hv⟩
theorem halve_y (h : YT B b room L F w) (hB : B ≤ w.heap.size) (hw : WL room L) (hr : room ≤ 1000) : Calls Try.prog 12 #[.pointer (some ⟨b, 0, none⟩)] w fun e w' => e = .returned (.int .i64 ((L.length : Int) - (halL L).length)) ∧ Turned (YT B b room (halL L)) F w w' := by
  obtain ⟨v, h, rfl⟩ := h
  refine (rhalve_any w h hB hw hr).mono ?_
  rintro e w1 ⟨v1, rfl, h1, hc, hv⟩
  exact ⟨rfl, turned_y h1 (hc.mono fun i _ e => .inl e) (fun k e => .inr (hv k e))⟩
theorem at_y (s : ByteArray) (h : YT B b room L F w) (hl : L.length ≤ 1000) : Calls Try.prog 15 #[.pointer (some ⟨b, 0, none⟩), .string s] w fun e w' => e = .returned (.int .i64 (atI s L)) ∧ w = w' := by
  obtain ⟨v, h, rfl⟩ := h
  exact at_any s w h hl
/-- A top, and what it is. -/
def IsTop (L : List It) (k : Int) (v : Value) (w : World) : Prop := ∃ p c o R, v = .slice (ap p) o.length c ∧ (o.length : Int) = brI k 0 L.length ∧ RdC w p (ents o) ∧ (o ++ R).Perm L ∧ o.Pairwise (fun x y => ilt x y = true) ∧ (∀ x ∈ o, ∀ y ∈ R, ilt x y = true)
theorem IsTop.below {k : Int} {v : Value} (h : IsTop L k v w) (hb : Below w.heap.size w w1) : IsTop L k v w1 := by
  obtain ⟨p, c, o, R, e, ho, hr, h1, h2, h3⟩ := h
  exact ⟨p, c, o, R, e, ho, hr.below hb, h1, h2, h3⟩
theorem top_is (k : Int) (h : XT B g md room L F w) : Calls Try.prog 14 #[.pointer (some ⟨g, 0, none⟩), .int .i64 k] w fun e w' => ∃ v, e = .returned v ∧ IsTop L k v w' ∧ Below w.heap.size w w' := by
  refine (top_x k h).mono ?_
  rintro e w1 ⟨p, c, o, R, rfl, ho, hr, h1, h2, h3, hb⟩
  exact ⟨_, rfl, ⟨p, c, o, R, rfl, ho, hr, h1, h2, h3⟩, hb⟩
theorem ranked_y {k : Int} {t : Value} (ht : IsTop L k t w) (h : YT B b room L F w) (hw : WL room L) (hr : room ≤ 1000) : Calls Try.prog 13 #[t, .pointer (some ⟨b, 0, none⟩), .int .i64 k] w fun e w' => e = .returned (.bool true) ∧ Below w.heap.size w w' := by
  obtain ⟨p, c, o, R, rfl, ho, hrd, h1, h2, h3⟩ := ht
  obtain ⟨v, h, rfl⟩ := h
  exact ranked_any w p c o R k h (by have := hw.len; omega) hw.nd ho hrd h1 h2 h3
section
variable {a : World} {bx : Option (Nat × Obj)} {X Y : (Nat → Prop) → World → Prop}
theorem Duo.named (h : Duo B a bx X (YT B b room L) w) : ∃ v, Duo B a bx X (YP B b room v L) w := by
  obtain ⟨⟨F, H, hx, ⟨v, hr, rfl⟩, hd, hg⟩, bel, hB⟩ := h
  exact ⟨v, ⟨F, _, hx, ⟨hr, rfl⟩, hd, hg⟩, bel, hB⟩
theorem Duo.unnamed (h : Duo B a bx X (YP B b room v L) w) : Duo B a bx X (YT B b room L) w := h.mono (fun _ _ h => h) (fun _ _ h => ⟨_, h.1, h.2⟩)
theorem Duo.refAt (h : Duo B a bx X (YP B b room v L) w) : DT B w b room v L := h.exY.choose_spec.1
end
theorem duo_start {w0 w1 w2 : World} {D : DW} (h : TB w0.heap.size w1 g md room D L) (hb : Below w0.heap.size w0 w1) (hy : DT w1.heap.size w2 b room v L) (hb2 : Below w1.heap.size w1 w2) : Duo w0.heap.size w0 none (XT w0.heap.size g md room L) (YT w0.heap.size b room L) w2 := by
  have hg := blk_lt h.box
  have hm := h.map.lt
  refine ⟨⟨FX g md, FY b v, ⟨D, h.below hb2, rfl⟩, ⟨v, ⟨hy.box, own_less hy.row hb.size, hy.ne, Nat.le_trans hb.size hy.lo⟩, rfl⟩, ?_, fun p e => by cases e⟩, below_step hb hb2, Nat.le_trans hb.size hb2.size⟩
  have hlo := hy.lo
  rintro i (e | e) (e2 | e2)
  · omega
  · have := own_base hy.row i e2.symm; omega
  · omega
  · have := own_base hy.row i e2.symm; omega
end
end Go.Proofs.Ytfijbhacobjjgah
