/- The program's state as an object of a pair: its acts. -/
import Derived.Test.YtfijbhacobjjgacDuoA
namespace Go.Proofs.Ytfijbhacobjjgac
open Go.RowKit Go.Proofs.YtfijbhacobjjgacW.PrintWords Go.Proofs.YtfijbhacobjjgacW.PrintLast Go.Proofs.YtfijbhacobjjgacW.PrintMore Go.Proofs.Ytfijbhacobjjgac.Fr
set_option linter.unusedVariables false
set_option linter.unusedSimpArgs false
attribute [local go_sem] max2_int min2_int max_two min_two

open Go.Maps
def FA (g : Nat) (rv dv : Value) (md i : Nat) : Prop := i = g ∨ i = md ∨ some i = rv.ownBlock ∨ some i = dv.ownBlock
def XA (B g md n : Nat) (rs ds : List ByteArray) (D : DW) (F : Nat → Prop) (w : World) : Prop := ∃ rv dv, ST B w g rv dv md n rs ds D ∧ F = FA g rv dv md
section
variable {B : Nat} {a w w1 : World} {g : Nat} {rv dv rv1 dv1 : Value} {md n n1 : Nat} {rs ds rs1 ds1 : List ByteArray} {D D1 : DW} {F : Nat → Prop}
theorem fam_xa : Fam B (XA B g md n rs ds D) where
  lt := by
    rintro F w i ⟨rv, dv, h, rfl⟩ (e | e | e | e)
    · exact e ▸ ⟨blk_lt h.box, h.lo⟩
    · exact e ▸ ⟨h.map.lt, h.lom⟩
    · exact ⟨own_lt h.rcs i e.symm, own_base h.rcs i e.symm⟩
    · exact ⟨own_lt h.dsk i e.symm, own_base h.dsk i e.symm⟩
  ch := by
    rintro F w w' S ⟨rv, dv, h, rfl⟩ hc hs
    exact ⟨rv, dv, h.ch hc (hs g (.inl rfl)) (fun k e => hs k (.inr (.inr (.inl e.symm)))) (fun k e => hs k (.inr (.inr (.inr e.symm)))) (hs md (.inr (.inl rfl))), rfl⟩
theorem turned_mv (h : ST B w1 g rv1 dv1 md n1 rs1 ds1 D1) (m : Mv g rv dv md rv1 dv1 w w1) : Turned (XA B g md n1 rs1 ds1 D1) (FA g rv dv md) w w1 := by
  refine ⟨FA g rv1 dv1 md, ⟨rv1, dv1, h, rfl⟩, m.ch.mono (fun i _ e => ?_), ?_⟩
  · rcases e with e | e | e
    · exact .inl e
    · exact .inr (.inl e)
    · exact .inr (.inr (.inl e))
  · rintro i (e | e | e | e)
    · exact .inl (.inl e)
    · exact .inl (.inr (.inl e))
    · rcases m.r i e.symm with e2 | e2
      · exact .inl (.inr (.inr (.inl e2.symm)))
      · exact .inr e2
    · rcases m.d i e.symm with e2 | e2
      · exact .inl (.inr (.inr (.inr e2.symm)))
      · exact .inr e2
theorem apply_x (at' : Int) (s : ByteArray) (h : XA B g md n rs ds D F w) (hB : B ≤ w.heap.size) (hat : at' = rs.length) (hl : rs.length < 400) :
    Calls Try.prog 9 #[.pointer (some ⟨g, 0, none⟩), .int .i64 at', .string s] w fun e w' => e = .returned (.int .i64 0) ∧ Turned (XA B g md n (rs ++ [s]) ds D) F w w' := by
  obtain ⟨rv, dv, h, rfl⟩ := h
  refine (apply_mv at' s (a := w) ⟨h, Below.refl _ _, hB⟩ hat hl).mono ?_
  rintro e w1 ⟨v1, rfl, ht, hm⟩
  exact ⟨rfl, turned_mv ht.st hm⟩
theorem apply_xn (k : Int) (s : ByteArray) (h : XA B g md n rs ds D F w) (hk : k ≠ rs.length) :
    Calls Try.prog 9 #[.pointer (some ⟨g, 0, none⟩), .int .i64 k, .string s] w fun e w' => e = .returned (.int .i64 7) ∧ w = w' := by
  obtain ⟨rv, dv, h, rfl⟩ := h
  exact apply_order k s w h hk
theorem load_x (A : Option Addr) (c : Nat) (l : List ByteArray) (h : XA B g md n rs ds D F w) (hB : B ≤ w.heap.size) (hrd : RdS w A l) (hl : rs.length < l.length) (hl4 : l.length ≤ 400) :
    Calls Try.prog 10 #[.pointer (some ⟨g, 0, none⟩), .slice A l.length c] w fun e w' => e = .returned (.int .i64 0) ∧ Turned (XA B g md n l ds D) F w w' := by
  obtain ⟨rv, dv, h, rfl⟩ := h
  refine (load_mv A c l (a := w) ⟨h, Below.refl _ _, hB⟩ hrd hl hl4).mono ?_
  rintro e w1 ⟨v1, rfl, ht, hm⟩
  exact ⟨rfl, turned_mv ht.st hm⟩
theorem load_xn (A : Option Addr) (la c : Nat) (h : XA B g md n rs ds D F w) (hl : la ≤ rs.length) :
    Calls Try.prog 10 #[.pointer (some ⟨g, 0, none⟩), .slice A la c] w fun e w' => e = .returned (.int .i64 7) ∧ w = w' := by
  obtain ⟨rv, dv, h, rfl⟩ := h
  exact load_few A la c w h hl
theorem sync_x (h : XA B g md n rs ds D F w) (hB : B ≤ w.heap.size) (hl : rs.length ≤ 100000) :
    Calls Try.prog 11 #[.pointer (some ⟨g, 0, none⟩)] w fun e w' => e = .returned (.int .i64 rs.length) ∧ Turned (XA B g md n rs rs D) F w w' := by
  obtain ⟨rv, dv, h, rfl⟩ := h
  refine (sync_mv (a := w) ⟨h, Below.refl _ _, hB⟩ hl).mono ?_
  rintro e w1 ⟨v1, rfl, ht, hm⟩
  exact ⟨rfl, turned_mv ht.st hm⟩
theorem crash_x (h : XA B g md n rs ds D F w) (hB : B ≤ w.heap.size) (hl : ds.length ≤ 100000) :
    Calls Try.prog 12 #[.pointer (some ⟨g, 0, none⟩)] w fun e w' => e = .returned (.tuple #[]) ∧ Turned (XA B g md 0 ds ds (.map [])) F w w' := by
  obtain ⟨rv, dv, h, rfl⟩ := h
  refine (crash_mv (a := w) ⟨h, Below.refl _ _, hB⟩ hl).mono ?_
  rintro e w1 ⟨v1, rfl, ht, hm⟩
  exact ⟨rfl, turned_mv ht.st hm⟩
def keepR (k : Int) (s : ByteArray) : Int := if k < 1 then 1 else if 256 < s.size then 5 else 0
theorem Kept.ret {k r : Int} {s : ByteArray} (h : Kept D k s r D1) : r = keepR k s := by
  unfold Kept at h
  unfold keepR
  split at h
  · rename_i c; rw [if_pos c]; exact h.1
  · rename_i c
    rw [if_neg c]
    split at h
    · rename_i c2; rw [if_pos c2]; exact h.1
    · rename_i c2; rw [if_neg c2]; exact h.1
theorem keep_x (k : Int) (s : ByteArray) (h : XA B g md n rs ds D F w) (hB : B ≤ w.heap.size) (hwk : (Lit.int .i64 k).wf = true) (hn : n ≤ 1000) :
    Calls Try.prog 15 #[.pointer (some ⟨g, 0, none⟩), .int .i64 k, .string s] w fun e w' => e = .returned (.int .i64 (keepR k s)) ∧ Turned (fun F w => ∃ D1, Kept D k s (keepR k s) D1 ∧ XA B g md (n + 1) rs ds D1 F w) F w w' := by
  obtain ⟨rv, dv, h, rfl⟩ := h
  refine (keep_mv k s (a := w) ⟨h, Below.refl _ _, hB⟩ hwk hn).mono ?_
  rintro e w1 ⟨r, D1, rfl, hk, ht, hm⟩
  have hr := hk.ret
  subst hr
  exact ⟨rfl, (turned_mv ht.st hm).mono fun F w hx => ⟨D1, hk, hx⟩⟩
theorem len_x (h : XA B g md n rs ds D F w) : Calls Try.prog 16 #[.pointer (some ⟨g, 0, none⟩)] w fun e w' => e = .returned (.int .i64 rs.length) ∧ w = w' := by
  obtain ⟨rv, dv, h, rfl⟩ := h
  exact len_any w h
theorem dur_x (h : XA B g md n rs ds D F w) : Calls Try.prog 25 #[.pointer (some ⟨g, 0, none⟩)] w fun e w' => e = .returned (.int .i64 ds.length) ∧ w = w' := by
  obtain ⟨rv, dv, h, rfl⟩ := h
  exact dur_any w h
theorem all_x (h : XA B g md n rs ds D F w) (hl : rs.length ≤ 100000) : Calls Try.prog 8 #[.pointer (some ⟨g, 0, none⟩)] w (ClonePost rs w) := by
  obtain ⟨rv, dv, h, rfl⟩ := h
  exact all_any w h hl
theorem last_x (h : XA B g md n rs ds D F w) : Calls Try.prog 14 #[.pointer (some ⟨g, 0, none⟩)] w fun e w' => (∃ m, e = .returned (.int .i64 m) ∧ IsLast D m) ∧ Below w.heap.size w w' := by
  obtain ⟨rv, dv, h, rfl⟩ := h
  exact last_any w h
theorem dict_x (k : Int) (h : XA B g md n rs ds D F w) (h0 : k ≠ 0) (hwk : (Lit.int .i64 k).wf = true) :
    Calls Try.prog 22 #[.pointer (some ⟨g, 0, none⟩), .int .i64 k] w fun e w' => (∃ t : ByteArray, e = .returned (.tuple #[.string t, .bool (Maps.has D (.int .i64 k))]) ∧ D.atKey (.int .i64 k) (.lit (.string [])) = .lit (.string t.data.toList)) ∧ w = w' := by
  obtain ⟨rv, dv, h, rfl⟩ := h
  exact dict_any k w h h0 hwk
theorem keys_x (h : XA B g md n rs ds D F w) : ∀ y, y ∈ intKeys D ↔ Maps.has D (.int .i64 y) = true := by
  obtain ⟨rv, dv, h, rfl⟩ := h
  obtain ⟨es, hD, hpw, _⟩ := h.map.entries law3
  obtain ⟨es', hD', hko⟩ := h.map.keysOf
  obtain rfl : es = es' := by rw [hD] at hD'; simpa using hD'
  subst hD
  intro y
  rw [has_eq, List.any_eq_true]
  show y ∈ es.map (fun p => intOf p.1) ↔ _
  rw [List.mem_map]
  constructor
  · rintro ⟨p, hp, rfl⟩
    obtain ⟨v, hv⟩ := hko p hp
    obtain ⟨x, _, hx, _⟩ := Maps.keyOf_i64 Try.underlying3 hv
    exact ⟨p, hp, by rw [hx]; simp [Lit.sameKey, intOf]⟩
  · rintro ⟨p, hp, hs⟩
    obtain ⟨v, hv⟩ := hko p hp
    obtain ⟨x, _, hx, _⟩ := Maps.keyOf_i64 Try.underlying3 hv
    rw [hx] at hs
    exact ⟨p, hp, by rw [hx]; simpa [Lit.sameKey, intOf] using hs⟩
end
end Go.Proofs.Ytfijbhacobjjgac
