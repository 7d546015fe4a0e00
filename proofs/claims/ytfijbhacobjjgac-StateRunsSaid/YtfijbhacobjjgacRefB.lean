/- The document's state: its place of an epoch, its dictionaries, its last epoch. -/
import Derived.Test.YtfijbhacobjjgacRefA
namespace Go.Proofs.Ytfijbhacobjjgac
open Go.RowKit Go.Proofs.YtfijbhacobjjgacW.PrintWords Go.Proofs.YtfijbhacobjjgacW.PrintLast Go.Proofs.YtfijbhacobjjgacW.PrintMore Go.Proofs.Ytfijbhacobjjgac.Fr
set_option linter.unusedVariables false
set_option linter.unusedSimpArgs false
attribute [local go_sem] max2_int min2_int max_two min_two

open Go.Maps
section
variable {B : Nat} {b : Nat} {rv dv ev tv : Value} {rs ds ts : List ByteArray} {es : List Int}
/-- The place of an epoch. -/
def AtIs (es : List Int) (x r : Int) : Prop := (r = -1 ∧ ∀ i, i < es.length → es.getD i 0 ≠ x) ∨ ∃ k : Nat, k < es.length ∧ r = k ∧ es.getD k 0 = x
theorem at_any (x : Int) (w : World) (h : RS B w b rv dv ev tv rs ds es ts) (h8 : es.length ≤ 8) :
    Calls Try.prog 31 #[.pointer (some ⟨b, 0, none⟩), .int .i64 x] w fun e w' => (∃ r : Int, e = .returned (.int .i64 r) ∧ AtIs es x r) ∧ w = w' := by
  obtain ⟨_, _, ⟨A, c, rfl, hc, hr⟩, _⟩ := h.slices
  have c2 : w.cell? ⟨b, 2, none⟩ = some (.slice A es.length c) := (blk_cell h.box 2).trans rfl
  have HR := Aside0.mk hr
  clear h hr
  go_enter Try.func31, Try.ntmps31
  go_wp2_with fail
  go_loopg [5] es.length (fun d x5 wr => ∃ (k : Nat), Aside0 (k + d = es.length) ∧ x5 = .int .i64 k ∧ Aside0 (∀ i, i < k → es.getD i 0 ≠ x) ∧ wr = w)
  case atStart => exact ⟨0, ⟨by omega⟩, rfl, ⟨fun i hi => by omega⟩, rfl⟩
  case round =>
    obtain ⟨k, HK, rfl, HM, rfl⟩ := hrel
    by_cases hlt : k < es.length
    · obtain ⟨ad, rfl, hcell⟩ := HR.out k hlt
      obtain ⟨y, hy⟩ : ∃ y, es.getD k 0 = y := ⟨_, rfl⟩
      rw [hy] at hcell
      have hk8 : k < 8 := by omega
      have HY := Aside0.mk hy
      clear hy
      by_cases he : y = x
      · have hq : (y == x) = true := by simpa using he
        have HE := Aside0.mk he
        clear he
        go_wp2
        go_ret
        exact ⟨⟨k, rfl, .inr ⟨k, hlt, rfl, HY.out.trans HE.out⟩⟩, rfl⟩
      · have hq : (y == x) = false := by simpa using he
        have HE := Aside0.mk he
        clear he
        go_wp2
        go_roundg (gk - 1)
        case measure => have := HK.out; omega
        case rel => exact ⟨k + 1, ⟨by have := HK.out; omega⟩, by go_num, ⟨fun i hi => by
          rcases (by omega : i < k ∨ i = k) with e | e
          · exact HM.out i e
          · subst e; exact fun e2 => HE.out (HY.out.symm.trans e2)⟩, rfl⟩
    · go_wp2
      go_ret
      exact ⟨⟨-1, rfl, .inl ⟨rfl, fun i hi => HM.out i (by have := HK.out; omega)⟩⟩, rfl⟩
theorem rlast_any (w : World) (h : RS B w b rv dv ev tv rs ds es ts) (h8 : es.length ≤ 8) :
    Calls Try.prog 24 #[.pointer (some ⟨b, 0, none⟩)] w fun e w' => (∃ m : Int, e = .returned (.int .i64 m) ∧ RLast es m) ∧ w = w' := by
  obtain ⟨_, _, ⟨A, c, rfl, hc, hr⟩, _⟩ := h.slices
  have c2 : w.cell? ⟨b, 2, none⟩ = some (.slice A es.length c) := (blk_cell h.box 2).trans rfl
  have HR := Aside0.mk hr
  clear h hr
  go_enter Try.func24, Try.ntmps24
  go_wp2_with fail
  go_loopg [3, 4] es.length (fun d x3 x4 wr => ∃ (k : Nat) (m : Int), Aside0 (k + d = es.length) ∧ x3 = .int .i64 m ∧ x4 = .int .i64 k ∧ Aside0 (0 ≤ m ∧ (∀ i, i < k → es.getD i 0 ≤ m) ∧ (m = 0 ∨ ∃ i, i < k ∧ es.getD i 0 = m)) ∧ wr = w)
  case atStart => exact ⟨0, 0, ⟨by omega⟩, rfl, rfl, ⟨Int.le_refl _, fun i hi => by omega, .inl rfl⟩, rfl⟩
  case round =>
    obtain ⟨k, m, HK, rfl, rfl, HM, rfl⟩ := hrel
    by_cases hlt : k < es.length
    · obtain ⟨ad, rfl, hcell⟩ := HR.out k hlt
      obtain ⟨y, hy⟩ : ∃ y, es.getD k 0 = y := ⟨_, rfl⟩
      rw [hy] at hcell
      have hk8 : k < 8 := by omega
      have HY := Aside0.mk hy
      clear hy
      go_wp2
      case inl h =>
        go_roundg (gk - 1)
        case measure => have := HK.out; omega
        case rel => exact ⟨k + 1, y, ⟨by have := HK.out; omega⟩, rfl, by go_num, ⟨by
          obtain ⟨m0, m1, m2⟩ := HM.out
          have hy := HY.out
          refine ⟨by omega, fun i hi => ?_, ?_⟩
          · rcases (by omega : i < k ∨ i = k) with e | e
            · have := m1 i e; omega
            · subst e; omega
          · exact .inr ⟨k, by omega, hy⟩⟩, rfl⟩
      case inr h =>
        go_roundg (gk - 1)
        case measure => have := HK.out; omega
        case rel => exact ⟨k + 1, m, ⟨by have := HK.out; omega⟩, rfl, by go_num, ⟨by
          obtain ⟨m0, m1, m2⟩ := HM.out
          have hy := HY.out
          refine ⟨by omega, fun i hi => ?_, ?_⟩
          · rcases (by omega : i < k ∨ i = k) with e | e
            · have := m1 i e; omega
            · subst e; omega
          · rcases m2 with m2 | ⟨i, hi, e2⟩
            · exact .inl m2
            · exact .inr ⟨i, by omega, e2⟩⟩, rfl⟩
    · go_wp2
      go_ret
      have hk : k = es.length ∨ es.length < k := by omega
      refine ⟨⟨m, rfl, HM.out.1, fun i hi => HM.out.2.1 i (by omega), ?_⟩, rfl⟩
      rcases HM.out.2.2 with e | ⟨i, hi, e⟩
      · exact .inl e
      · exact .inr ⟨i, by have := HK.out; omega, e⟩
theorem rdict_zero (a : Nat) (w : World) : Calls Try.prog 23 #[.pointer (some ⟨a, 0, none⟩), .int .i64 0] w fun e w' => e = .returned (.tuple #[.string ⟨#[]⟩, .bool true]) ∧ w = w' := by
  go_enter Try.func23, Try.ntmps23
  go_wp2
  go_ret2
  exact ⟨rfl, rfl⟩
/-- What is kept of an epoch. -/
def DictIs (es : List Int) (ts : List ByteArray) (x : Int) (t : ByteArray) (has : Bool) : Prop := (has = false ∧ t = ⟨#[]⟩ ∧ ∀ i, i < es.length → es.getD i 0 ≠ x) ∨ ∃ k : Nat, k < es.length ∧ es.getD k 0 = x ∧ has = true ∧ t = ts.getD k ByteArray.empty
theorem rdict_any (x : Int) (w : World) (h : RS B w b rv dv ev tv rs ds es ts) (h8 : es.length ≤ 8) (hl : ts.length = es.length) (h0 : x ≠ 0) :
    Calls Try.prog 23 #[.pointer (some ⟨b, 0, none⟩), .int .i64 x] w fun e w' => (∃ t has, e = .returned (.tuple #[.string t, .bool has]) ∧ DictIs es ts x t has) ∧ w = w' := by
  obtain ⟨_, _, _, A, c, hv, hc, hr⟩ := h.slices
  have c3 : w.cell? ⟨b, 3, none⟩ = some (.slice A ts.length c) := hv ▸ (blk_cell h.box 3).trans rfl
  have hq : (x == 0) = false := by simpa using h0
  have H := Aside0.mk h
  have HR := Aside0.mk hr
  clear h hr hv
  go_enter Try.func23, Try.ntmps23
  go_wp2_with fail
  refine (at_any x _ H.out h8).mono ?_
  rintro e w1 ⟨⟨r, rfl, hr⟩, rfl⟩
  rcases hr with ⟨rfl, hn⟩ | ⟨k, hk, rfl, he⟩
  · have HN := Aside0.mk hn
    clear hn
    go_wp2
    go_ret2
    exact ⟨⟨_, _, rfl, .inl ⟨rfl, rfl, HN.out⟩⟩, rfl⟩
  · obtain ⟨ad, rfl, hcell⟩ := HR.out k (by omega)
    obtain ⟨y, hy⟩ : ∃ y, ts.getD k ByteArray.empty = y := ⟨_, rfl⟩
    rw [hy] at hcell
    have hk8 : k < 8 := by omega
    have HE := Aside0.mk (And.intro he hy)
    have hk2 : k < ts.length := by omega
    clear he hy
    go_wp2
    go_ret2
    exact ⟨⟨_, _, rfl, .inr ⟨k, hk, HE.out.1, rfl, HE.out.2.symm⟩⟩, rfl⟩
theorem rkeep_bad (k : Int) (s : ByteArray) (a : Nat) (w : World) (hk : k < 1) : Calls Try.prog 21 #[.pointer (some ⟨a, 0, none⟩), .int .i64 k, .string s] w fun e w' => e = .returned (.int .i64 1) ∧ w = w' := by
  go_enter Try.func21, Try.ntmps21
  go_wp2
  go_ret
  exact ⟨rfl, rfl⟩
theorem rkeep_long (k : Int) (s : ByteArray) (a : Nat) (w : World) (hk : 1 ≤ k) (hs : 256 < s.size) : Calls Try.prog 21 #[.pointer (some ⟨a, 0, none⟩), .int .i64 k, .string s] w fun e w' => e = .returned (.int .i64 5) ∧ w = w' := by
  have hsi : (256 : Int) < (s.size : Int) := by omega
  have hk0 : ¬ k < 1 := by omega
  go_enter Try.func21, Try.ntmps21
  go_wp2
  go_ret
  exact ⟨rfl, rfl⟩
end
end Go.Proofs.Ytfijbhacobjjgac
