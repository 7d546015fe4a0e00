/- A state's acts beside rows of the caller's. -/
import Derived.Test.YtfijbhacobjjgacStateF
namespace Go.Proofs.Ytfijbhacobjjgac
open Go.RowKit Go.Proofs.YtfijbhacobjjgacW.PrintWords Go.Proofs.YtfijbhacobjjgacW.PrintLast Go.Proofs.YtfijbhacobjjgacW.PrintMore Go.Proofs.Ytfijbhacobjjgac.Fr
set_option linter.unusedVariables false
set_option linter.unusedSimpArgs false
attribute [local go_sem] max2_int min2_int max_two min_two

open Go.Maps
/-- What an act on a state may have turned. -/
structure Mv (g : Nat) (rv dv : Value) (md : Nat) (rv' dv' : Value) (w w' : World) : Prop where
  ch : Ch (fun i => i = g ∨ i = md ∨ some i = rv.ownBlock) w w'
  r : ∀ k, rv'.ownBlock = some k → rv.ownBlock = some k ∨ w.heap.size ≤ k
  d : ∀ k, dv'.ownBlock = some k → dv.ownBlock = some k ∨ w.heap.size ≤ k
/-- A row of the caller's, beside a state. -/
structure Rw (B g : Nat) (rv dv : Value) (md : Nat) (w : World) (v : Value) (l : List ByteArray) : Prop where
  row : w.ownsRow B 9 1 v (svals l).length (svals l)
  dis : ∀ i, v.ownBlock = some i → Free B g rv dv md i
section
variable {B : Nat} {a w w1 : World} {g : Nat} {rv dv rv1 dv1 v : Value} {md n : Nat} {rs ds l : List ByteArray} {D : DW}
theorem Rw.move (h : Rw B g rv dv md w v l) (m : Mv g rv dv md rv1 dv1 w w1) : Rw B g rv1 dv1 md w1 v l :=
  ⟨m.ch.own h.row (fun k e e2 => by
      have f := h.dis k e
      rcases e2 with e2 | e2 | e2
      · exact f.2.1 e2
      · exact f.2.2.2.2 e2.symm
      · exact f.2.2.1 e2.symm),
    fun i e => by
      have f := h.dis i e
      have hlt := own_lt h.row i e
      refine ⟨f.1, f.2.1, fun e2 => ?_, fun e2 => ?_, f.2.2.2.2⟩
      · rcases m.r i e2 with e3 | e3
        · exact f.2.2.1 e3
        · omega
      · rcases m.d i e2 with e3 | e3
        · exact f.2.2.2.1 e3
        · omega⟩
theorem Rw.from (h : Rw B g rv dv md w v l) (k : Below w.heap.size w w1) : Rw B g rv dv md w1 v l := ⟨pw_own_below h.row k, h.dis⟩
theorem Mv.refl (w : World) : Mv g rv dv md rv dv w w := ⟨Ch.refl _ _, fun _ e => .inl e, fun _ e => .inl e⟩
theorem Rw.nil (w : World) : Rw B g rv dv md w (.slice none 0 0) [] := ⟨own_nil _ _ _ _, by intro i e; simp [Value.ownBlock] at e⟩
theorem all_in (h : SI B a w g rv dv md n rs ds D) (hl : rs.length ≤ 100000) : Calls Try.prog 8 #[.pointer (some ⟨g, 0, none⟩)] w fun e w' => ∃ v, e = .returned v ∧ Rw B g rv dv md w' v rs ∧ SI B a w' g rv dv md n rs ds D ∧ Below w.heap.size w w' :=
  (all_any w h.st hl).mono fun e w' ⟨v, he, ho, hb⟩ => ⟨v, he, ⟨own_less ho h.hB, fun i e => h.free (own_base ho i e)⟩, h.from hb, hb⟩
theorem apply_mv (at' : Int) (s : ByteArray) (h : SI B a w g rv dv md n rs ds D) (hat : at' = rs.length) (hl : rs.length < 400) :
    Calls Try.prog 9 #[.pointer (some ⟨g, 0, none⟩), .int .i64 at', .string s] w fun e w' => ∃ v1, e = .returned (.int .i64 0) ∧ SI B a w' g v1 dv md n (rs ++ [s]) ds D ∧ Mv g rv dv md v1 dv w w' :=
  (apply_in at' s h hat hl).mono fun e w' ⟨v1, he, ht, hc, hv⟩ => ⟨v1, he, ht, hc.mono (fun i _ e => by rcases e with e | e; exact .inl e; exact .inr (.inr e)), hv, fun _ e => .inl e⟩
theorem load_mv (A : Option Addr) (c : Nat) (l : List ByteArray) (h : SI B a w g rv dv md n rs ds D) (hrd : RdS w A l) (hl : rs.length < l.length) (hl4 : l.length ≤ 400) :
    Calls Try.prog 10 #[.pointer (some ⟨g, 0, none⟩), .slice A l.length c] w fun e w' => ∃ v1, e = .returned (.int .i64 0) ∧ SI B a w' g v1 dv md n l ds D ∧ Mv g rv dv md v1 dv w w' :=
  (load_in A c l h hrd hl hl4).mono fun e w' ⟨v1, he, ht, hc, hv⟩ => ⟨v1, he, ht, hc.mono (fun i _ e => .inl e), fun k e => .inr (hv k e), fun _ e => .inl e⟩
theorem sync_mv (h : SI B a w g rv dv md n rs ds D) (hl : rs.length ≤ 100000) :
    Calls Try.prog 11 #[.pointer (some ⟨g, 0, none⟩)] w fun e w' => ∃ v1, e = .returned (.int .i64 rs.length) ∧ SI B a w' g rv v1 md n rs rs D ∧ Mv g rv dv md rv v1 w w' :=
  (sync_in h hl).mono fun e w' ⟨v1, he, ht, hc, hv⟩ => ⟨v1, he, ht, hc.mono (fun i _ e => .inl e), fun _ e => .inl e, fun k e => .inr (hv k e)⟩
theorem crash_mv (h : SI B a w g rv dv md n rs ds D) (hl : ds.length ≤ 100000) :
    Calls Try.prog 12 #[.pointer (some ⟨g, 0, none⟩)] w fun e w' => ∃ v1, e = .returned (.tuple #[]) ∧ SI B a w' g v1 dv md 0 ds ds (.map []) ∧ Mv g rv dv md v1 dv w w' :=
  (crash_in h hl).mono fun e w' ⟨v1, he, ht, hc, hv⟩ => ⟨v1, he, ht, hc.mono (fun i _ e => by rcases e with e | e; exact .inl e; exact .inr (.inl e)), fun k e => .inr (hv k e), fun _ e => .inl e⟩
/-- What Keep leaves. -/
def Kept (D : DW) (k : Int) (s : ByteArray) (r : Int) (D1 : DW) : Prop :=
  if k < 1 then r = 1 ∧ D1 = D else if 256 < s.size then r = 5 ∧ D1 = D else r = 0 ∧ ∃ D0, D1 = D0.put (.int .i64 k) (.lit (.string s.data.toList)) ∧
    ((D0 = D ∧ (Maps.has D (.int .i64 k) = true ∨ Maps.size D < 8)) ∨ (Maps.has D (.int .i64 k) = false ∧ 8 ≤ Maps.size D ∧ ∃ ss : List Int, ss.Perm (intKeys D) ∧ D0 = D.del (.int .i64 (Lib.minOf ss))))
theorem keep_mv (k : Int) (s : ByteArray) (h : SI B a w g rv dv md n rs ds D) (hwk : (Lit.int .i64 k).wf = true) (hn : n ≤ 1000) :
    Calls Try.prog 15 #[.pointer (some ⟨g, 0, none⟩), .int .i64 k, .string s] w fun e w' => ∃ r D1, e = .returned (.int .i64 r) ∧ Kept D k s r D1 ∧ SI B a w' g rv dv md (n + 1) rs ds D1 ∧ Mv g rv dv md rv dv w w' := by
  have stay : SI B a w g rv dv md (n + 1) rs ds D := ⟨⟨h.st.box, h.st.rcs, h.st.dsk, h.st.map.mono (Nat.le_succ n), h.st.ne1, h.st.ne2, h.st.ne3, h.st.lo, h.st.lom, h.st.nm1, h.st.nm2, h.st.nm3⟩, h.below, h.hB⟩
  by_cases h1 : k < 1
  · refine (keep_bad k s g w h1).mono ?_
    rintro e w' ⟨rfl, rfl⟩
    exact ⟨1, D, rfl, by unfold Kept; rw [if_pos h1]; exact ⟨rfl, rfl⟩, stay, Mv.refl _⟩
  by_cases h2 : 256 < s.size
  · refine (keep_long k s g w (by omega) h2).mono ?_
    rintro e w' ⟨rfl, rfl⟩
    exact ⟨5, D, rfl, by unfold Kept; rw [if_neg h1, if_pos h2]; exact ⟨rfl, rfl⟩, stay, Mv.refl _⟩
  have fin : ∀ {w' : World} {D1 : DW}, ST B w' g rv dv md (n + 1) rs ds D1 → Ch (fun i => i = md) w w' → SI B a w' g rv dv md (n + 1) rs ds D1 ∧ Mv g rv dv md rv dv w w' := fun {w' D1} ht hc =>
    ⟨⟨ht, Ch.onto h.below hc h.hB (fun i e => by subst e; exact h.st.lom), Nat.le_trans h.hB hc.size⟩, hc.mono (fun i _ e => .inr (.inl e)), fun _ e => .inl e, fun _ e => .inl e⟩
  by_cases h3 : Maps.has D (.int .i64 k) = true ∨ Maps.size D < 8
  · refine (keep_plain k s w h.st (by omega) (by omega) hwk hn h3).mono ?_
    rintro e w' ⟨rfl, ht, hc⟩
    exact ⟨0, _, rfl, by unfold Kept; rw [if_neg h1, if_neg h2]; exact ⟨rfl, _, rfl, .inl ⟨rfl, h3⟩⟩, fin ht hc⟩
  · have h4 : Maps.has D (.int .i64 k) = false := by
      cases hb : Maps.has D (.int .i64 k)
      · rfl
      · exact absurd (.inl hb) h3
    have h5 : 8 ≤ Maps.size D := by
      rcases Nat.lt_or_ge (Maps.size D) 8 with h6 | h6
      · exact absurd (.inr h6) h3
      · exact h6
    refine (keep_full k s w h.st (by omega) (by omega) hwk hn h4 h5).mono ?_
    rintro e w' ⟨rfl, ss, hp, ht, hc⟩
    exact ⟨0, _, rfl, by unfold Kept; rw [if_neg h1, if_neg h2]; exact ⟨rfl, _, rfl, .inr ⟨h4, h5, ss, hp, rfl⟩⟩, fin ht hc⟩
theorem last_in (h : SI B a w g rv dv md n rs ds D) : Calls Try.prog 14 #[.pointer (some ⟨g, 0, none⟩)] w fun e w' => (∃ m, e = .returned (.int .i64 m) ∧ IsLast D m) ∧ SI B a w' g rv dv md n rs ds D ∧ Below w.heap.size w w' :=
  (last_any w h.st).mono fun e w' ⟨he, hb⟩ => ⟨he, h.from hb, hb⟩
theorem last_empty {m : Int} (h : IsLast (.map [] : DW) m) : m = 0 := by
  rcases h.2.2 with e | e
  · exact e
  · simp [Maps.has] at e
end
end Go.Proofs.Ytfijbhacobjjgac
