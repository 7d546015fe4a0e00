/- StateRuns: the two states side by side. -/
import Derived.Test.YtfijbhacobjjgacRefE
namespace Go.Proofs.Ytfijbhacobjjgac
open Go.RowKit Go.Proofs.YtfijbhacobjjgacW.PrintWords Go.Proofs.YtfijbhacobjjgacW.PrintLast Go.Proofs.YtfijbhacobjjgacW.PrintMore Go.Proofs.Ytfijbhacobjjgac.Fr
set_option linter.unusedVariables false
set_option linter.unusedSimpArgs false
attribute [local go_sem] max2_int min2_int max_two min_two

open Go.Maps
section
variable {B : Nat} {a w w1 : World} {bx : Option (Nat × Obj)} {X X' Y Y' : (Nat → Prop) → World → Prop} {F H : Nat → Prop} {g md b n : Nat} {rs ds ts : List ByteArray} {es : List Int} {D : DW}
theorem Duo.goX (h : Duo B a bx X Y w) (fx : Fam B X) (fy : Fam B Y) : ∃ F, X F w ∧ ∀ X' w1, Turned X' F w w1 → Duo B a bx X' Y w1 := by
  obtain ⟨F, H, hx, hy, hd⟩ := h.pin
  exact ⟨F, hx, fun X' w1 ht => (hd.left fx (fy.only H) ht).mono (fun _ _ h => h) (fun _ _ h => h.2)⟩
theorem Duo.goY (h : Duo B a bx X Y w) (fx : Fam B X) (fy : Fam B Y) : ∃ F, Y F w ∧ ∀ Y' w1, Turned Y' F w w1 → Duo B a bx X Y' w1 := by
  obtain ⟨F, H, hx, hy, hd⟩ := h.pin
  exact ⟨H, hy, fun Y' w1 ht => (hd.right (fx.only F) fy ht).mono (fun _ _ h => h.2) (fun _ _ h => h)⟩
theorem Duo.getX (h : Duo B a bx (only F X) Y w) : X F w := by
  obtain ⟨⟨F', H', ⟨rfl, hx⟩, _⟩, _, _⟩ := h
  exact hx
theorem Duo.getY (h : Duo B a bx X (only H Y) w) : Y H w := h.flip.getX
theorem Duo.exX (h : Duo B a bx X Y w) : ∃ F, X F w := by obtain ⟨⟨F, H, hx, _⟩, _, _⟩ := h; exact ⟨F, hx⟩
theorem Duo.exY (h : Duo B a bx X Y w) : ∃ F, Y F w := h.flip.exX
theorem Duo.outX {ι : Type} {P : ι → Prop} {Z : ι → (Nat → Prop) → World → Prop} (h : Duo B a bx (fun F w => ∃ d, P d ∧ Z d F w) Y w) : ∃ d, P d ∧ Duo B a bx (Z d) Y w := by
  obtain ⟨⟨F, H, ⟨d, hp, hx⟩, hy, hd, hg⟩, bel, hB⟩ := h
  exact ⟨d, hp, ⟨F, H, hx, hy, hd, hg⟩, bel, hB⟩
theorem Fam.ex {ι : Type} {P : ι → Prop} {Z : ι → (Nat → Prop) → World → Prop} (h : ∀ d, Fam B (Z d)) : Fam B (fun F w => ∃ d, P d ∧ Z d F w) where
  lt := by rintro F w i ⟨d, _, hz⟩ hi; exact (h d).lt F w i hz hi
  ch := by rintro F w w' S ⟨d, hp, hz⟩ hc hs; exact ⟨d, hp, (h d).ch F w w' S hz hc hs⟩
/-- Behind some acts: of the first, of the second. -/
def Gd (B : Nat) (a : World) (bx : Option (Nat × Obj)) (X X' Y Y' : (Nat → Prop) → World → Prop) (F H : Nat → Prop) (p q : Bool) (w : World) : Prop := Duo B a bx (bif p then X' else only F X) (bif q then Y' else only H Y) w
theorem Gd.left {q : Bool} (h : Gd B a bx X X' Y Y' F H false q w) (fx : Fam B X) (fy : Fam B Y) (fy' : Fam B Y') (ht : Turned X' F w w1) : Gd B a bx X X' Y Y' F H true q w1 := by
  cases q
  · exact Duo.left (X' := X') (Y := only H Y) h fx (fy.only H) ht
  · exact Duo.left (X' := X') (Y := Y') h fx fy' ht
theorem Gd.right {p : Bool} (h : Gd B a bx X X' Y Y' F H p false w) (fx : Fam B X) (fx' : Fam B X') (fy : Fam B Y) (ht : Turned Y' H w w1) : Gd B a bx X X' Y Y' F H p true w1 := by
  cases p
  · exact Duo.right (Y' := Y') (X := only F X) h (fx.only F) fy ht
  · exact Duo.right (Y' := Y') (X := X') h fx' fy ht
theorem Gd.from {p q : Bool} (h : Gd B a bx X X' Y Y' F H p q w) (fx : Fam B X) (fx' : Fam B X') (fy : Fam B Y) (fy' : Fam B Y') (k : Below w.heap.size w w1) : Gd B a bx X X' Y Y' F H p q w1 := by
  cases p <;> cases q
  · exact Duo.from h (fx.only F) (fy.only H) k
  · exact Duo.from h (fx.only F) fy' k
  · exact Duo.from h fx' (fy.only H) k
  · exact Duo.from h fx' fy' k
theorem Gd.box {p q : Bool} {gx : Nat} {o : Obj} (h : Gd B a (some (gx, o)) X X' Y Y' F H p q w) : w.heap[gx]? = some o := Duo.box h
theorem Gd.hB {p q : Bool} (h : Gd B a bx X X' Y Y' F H p q w) : B ≤ w.heap.size := Duo.hB h
abbrev Nl : Value := .slice none 0 0
theorem duo_start (h : SI B a w g Nl Nl md 0 [] [] D) : Duo B a none (XA B g md 0 [] [] D) (YB B w.heap.size [] [] [] []) (w.alloc (.cells #[Nl, Nl, Nl, Nl] 39)) := by
  have hg := blk_lt h.st.box
  have hm := h.st.map.lt
  have hb : Below w.heap.size w (w.alloc (.cells #[Nl, Nl, Nl, Nl] 39)) := below_alloc (Below.refl _ _) _
  refine ⟨⟨FA g Nl Nl md, FB w.heap.size Nl Nl Nl Nl, ⟨Nl, Nl, h.st.below hb, rfl⟩, ⟨Nl, Nl, Nl, Nl, ⟨blk_new w _, own_nil _ _ _ _, own_nil _ _ _ _, own_nil _ _ _ _, own_nil _ _ _ _, h.hB, ?_, ?_, ?_, ?_, ?_, ?_, ?_, ?_, ?_, ?_⟩, rfl⟩, ?_, fun p e => by cases e⟩, (h.from hb).below, (h.from hb).hB⟩
  all_goals first
    | (simp [Value.ownBlock]; done)
    | skip
  rintro i (e | e | e | e) (e2 | e2 | e2 | e2 | e2) <;> first
    | omega
    | (simp [Value.ownBlock] at e; done)
    | (simp [Value.ownBlock] at e2; done)
def DX (D : DW) (k : Int) (t : ByteArray) (has : Bool) : Prop := (k = 0 ∧ t = ⟨#[]⟩ ∧ has = true) ∨ (k ≠ 0 ∧ has = Maps.has D (.int .i64 k) ∧ D.atKey (.int .i64 k) (.lit (.string [])) = .lit (.string t.data.toList))
def DY (es : List Int) (ts : List ByteArray) (k : Int) (t : ByteArray) (has : Bool) : Prop := (k = 0 ∧ t = ⟨#[]⟩ ∧ has = true) ∨ (k ≠ 0 ∧ DictIs es ts k t has)
theorem dict_xx (k : Int) (h : XA B g md n rs ds D F w) (hwk : (Lit.int .i64 k).wf = true) :
    Calls Try.prog 22 #[.pointer (some ⟨g, 0, none⟩), .int .i64 k] w fun e w' => (∃ t has, e = .returned (.tuple #[.string t, .bool has]) ∧ DX D k t has) ∧ w = w' := by
  by_cases h0 : k = 0
  · subst h0
    refine (dict_zero g w).mono ?_
    rintro e w' ⟨rfl, rfl⟩
    exact ⟨⟨_, _, rfl, .inl ⟨rfl, rfl, rfl⟩⟩, rfl⟩
  · refine (dict_x k h h0 hwk).mono ?_
    rintro e w' ⟨⟨t, rfl, ht⟩, rfl⟩
    exact ⟨⟨_, _, rfl, .inr ⟨h0, rfl, ht⟩⟩, rfl⟩
theorem dict_yy (k : Int) (h : YB B b rs ds es ts F w) (h8 : es.length ≤ 8) (hl : ts.length = es.length) :
    Calls Try.prog 23 #[.pointer (some ⟨b, 0, none⟩), .int .i64 k] w fun e w' => (∃ t has, e = .returned (.tuple #[.string t, .bool has]) ∧ DY es ts k t has) ∧ w = w' := by
  by_cases h0 : k = 0
  · subst h0
    refine (rdict_zero b w).mono ?_
    rintro e w' ⟨rfl, rfl⟩
    exact ⟨⟨_, _, rfl, .inl ⟨rfl, rfl, rfl⟩⟩, rfl⟩
  · refine (dict_y k h h8 hl h0).mono ?_
    rintro e w' ⟨⟨t, has, rfl, ht⟩, rfl⟩
    exact ⟨⟨_, _, rfl, .inr ⟨h0, ht⟩⟩, rfl⟩
theorem arr_of {t u : ByteArray} (h : t.data.toList = u.data.toList) : t = u := by
  cases t; cases u; simpa using h
theorem Rel.dict {k : Int} {t u : ByteArray} {p q : Bool} (h : Rel D es ts) (h1 : DX D k t p) (h2 : DY es ts k u q) : t = u ∧ p = q := by
  rcases h1 with ⟨e, rfl, rfl⟩ | ⟨e, rfl, ht⟩ <;> rcases h2 with ⟨e2, rfl, rfl⟩ | ⟨e2, hd⟩
  · exact ⟨rfl, rfl⟩
  · exact absurd e e2
  · exact absurd e2 e
  rcases hd with ⟨rfl, rfl, hn⟩ | ⟨i, hi, he, rfl, rfl⟩
  · have hf : Maps.has D (.int .i64 k) = false := by
      cases hb : Maps.has D (.int .i64 k)
      · rfl
      · obtain ⟨i, hi, e3⟩ := (h.has k).1 hb
        exact absurd e3 (hn i hi)
    rw [atKey_of_not_has hf] at ht
    have ht2 : ([] : List UInt8) = t.data.toList := by simpa using ht
    exact ⟨arr_of ht2.symm, hf⟩
  · have hx := h.txt i hi
    rw [he] at hx
    rw [hx] at ht
    have ht2 : (ts.getD i ByteArray.empty).data.toList = t.data.toList := by simpa using ht
    exact ⟨arr_of ht2.symm, (h.has k).2 ⟨i, hi, he⟩⟩
/-- The document's state, its values named. -/
def YP (B b : Nat) (rv dv ev tv : Value) (rs ds : List ByteArray) (es : List Int) (ts : List ByteArray) (F : Nat → Prop) (w : World) : Prop := RS B w b rv dv ev tv rs ds es ts ∧ F = FB b rv dv ev tv
theorem fam_yp {rv dv ev tv : Value} : Fam B (YP B b rv dv ev tv rs ds es ts) where
  lt := by rintro F w i ⟨h, e⟩ hi; exact fam_yb.lt F w i ⟨_, _, _, _, h, e⟩ hi
  ch := by
    rintro F w w' S ⟨h, rfl⟩ hc hs
    exact ⟨h.ch hc (hs b (.inl rfl)) (fun k e => hs k (.inr (.inl e.symm))) (fun k e => hs k (.inr (.inr (.inl e.symm)))) (fun k e => hs k (.inr (.inr (.inr (.inl e.symm))))) (fun k e => hs k (.inr (.inr (.inr (.inr e.symm))))), rfl⟩
theorem Duo.named (h : Duo B a bx X (YB B b rs ds es ts) w) : ∃ A0 c0 A1 c1 ev tv, rs.length ≤ c0 ∧ ds.length ≤ c1 ∧ Duo B a bx X (YP B b (.slice A0 rs.length c0) (.slice A1 ds.length c1) ev tv rs ds es ts) w := by
  obtain ⟨⟨F, H, hx, ⟨rv, dv, ev, tv, hr, rfl⟩, hd, hg⟩, bel, hB⟩ := h
  obtain ⟨⟨A0, c0, rfl, h0, _⟩, ⟨A1, c1, rfl, h1, _⟩, _⟩ := hr.slices
  exact ⟨A0, c0, A1, c1, ev, tv, h0, h1, ⟨F, _, hx, ⟨hr, rfl⟩, hd, hg⟩, bel, hB⟩
theorem Duo.unnamed {rv dv ev tv : Value} (h : Duo B a bx X (YP B b rv dv ev tv rs ds es ts) w) : Duo B a bx X (YB B b rs ds es ts) w := h.mono (fun _ _ h => h) (fun _ _ h => ⟨_, _, _, _, h.1, h.2⟩)
theorem Duo.refAt {rv dv ev tv : Value} (h : Duo B a bx X (YP B b rv dv ev tv rs ds es ts) w) : RS B w b rv dv ev tv rs ds es ts := h.exY.choose_spec.1
end
end Go.Proofs.Ytfijbhacobjjgac
