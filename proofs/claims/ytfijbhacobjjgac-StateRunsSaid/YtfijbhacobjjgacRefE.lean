/- The document's Keep: one dictionary too many; all of it. -/
import Derived.Test.YtfijbhacobjjgacRefD
namespace Go.Proofs.Ytfijbhacobjjgac
open Go.RowKit Go.Proofs.YtfijbhacobjjgacW.PrintWords Go.Proofs.YtfijbhacobjjgacW.PrintLast Go.Proofs.YtfijbhacobjjgacW.PrintMore Go.Proofs.Ytfijbhacobjjgac.Fr
set_option linter.unusedVariables false
set_option linter.unusedSimpArgs false
attribute [local go_sem] max2_int min2_int max_two min_two

open Go.Maps
section
variable {B : Nat} {a w w1 : World} {b : Nat} {rv dv ev tv rv1 dv1 ev1 tv1 : Value} {rs ds ts rs1 ds1 ts1 : List ByteArray} {es es1 : List Int} {F : Nat → Prop}
set_option maxRecDepth 100000 in
theorem rkeep_full (x : Int) (s : ByteArray) (w : World) (h : RS B w b rv dv ev tv rs ds es ts) (hB : B ≤ w.heap.size) (h8 : es.length = 8) (hl : ts.length = es.length) (h1 : 1 ≤ x) (h2 : s.size ≤ 256) (hf : ∀ i : Nat, i < es.length → es.getD i 0 ≠ x) :
    Calls Try.prog FK #[.pointer (some ⟨b, 0, none⟩), .int .i64 x, .string s] w fun e w' => e = .returned (.int .i64 0) ∧ Turned (RKp es ts x s B b rs ds) (FB b rv dv ev tv) w w' := by
  have hk0 : ¬ x < 1 := by omega
  have hs : ¬ (256 : Int) < (s.size : Int) := by omega
  have H := Aside0.mk h
  have HF := Aside0.mk hf
  obtain ⟨ge, ce, rfl, _, _⟩ := num_row h.eps 0 (by omega)
  have c2 : w.cell? ⟨b, 2, none⟩ = some (.slice (some ⟨ge, 0, none⟩) es.length ce) := (blk_cell h.box 2).trans rfl
  have hq8 : ((es.length : Int) == 8) = true := by simp; omega
  have H8 := Aside0.mk (And.intro h8 hl)
  have HN := Aside0.mk (fun i (hi : i < es.length) => num_row h.eps i hi)
  clear hf h h8 hl
  go_enter Try.func21, Try.ntmps21
  go_wp2_with fail
  refine (at_any x _ H.out (by have := H8.out; omega)).mono ?_
  rintro e w1 ⟨⟨r, rfl, hr⟩, rfl⟩
  rcases hr with ⟨rfl, hn⟩ | ⟨k, hk, rfl, he⟩
  rotate_left
  · exact absurd he (HF.out k hk)
  clear hn
  go_wp2_with fail
  go_loopg [7, 8] 7 (fun d x7 x8 wr => ∃ (i k : Nat), Aside0 (i + d = 8 ∧ 1 ≤ i ∧ k < i) ∧ x7 = .int .i64 k ∧ x8 = .int .i64 i ∧ Aside0 (∀ j, j < i → es.getD k 0 ≤ es.getD j 0) ∧ Aside0 (Drawn0 w wr))
  case atStart => exact ⟨1, 0, ⟨by omega⟩, rfl, rfl, ⟨fun j hj => by obtain rfl : j = 0 := (by omega); exact Int.le_refl _⟩, ⟨Drawn0.refl w⟩⟩
  case round =>
    obtain ⟨i, k, HI, rfl, rfl, HM, HD⟩ := hrel
    have d2 : wr.cell? ⟨b, 2, none⟩ = some (.slice (some ⟨ge, 0, none⟩) es.length ce) := by obtain ⟨⟨n, e⟩⟩ := HD.out; rw [e]; exact c2
    by_cases hlt : i < 8
    · have hi : i < es.length := by have := H8.out; omega
      have hk : k < es.length := by have := HI.out; omega
      have hk2 : k < 8 := by have := HI.out; omega
      obtain ⟨yi, hyi⟩ : ∃ y, es.getD i 0 = y := ⟨_, rfl⟩
      obtain ⟨yk, hyk⟩ : ∃ y, es.getD k 0 = y := ⟨_, rfl⟩
      have ci : wr.cell? ⟨ge, i, none⟩ = some (.int .i64 yi) := by obtain ⟨⟨n, e⟩⟩ := HD.out; rw [e]; obtain ⟨g, c, e2, hc, _⟩ := HN.out i hi; cases e2; rw [← hyi]; exact hc
      have ck : wr.cell? ⟨ge, k, none⟩ = some (.int .i64 yk) := by obtain ⟨⟨n, e⟩⟩ := HD.out; rw [e]; obtain ⟨g, c, e2, hc, _⟩ := HN.out k hk; cases e2; rw [← hyk]; exact hc
      have HY := Aside0.mk (And.intro hyi hyk)
      clear hyi hyk c2
      by_cases hy : yi < yk
      · go_wp2
        go_quiet (fail)
        go_wp2
        go_roundg (gk - 1)
        case measure => have := HI.out; omega
        case rel => exact ⟨i + 1, i, ⟨by have := HI.out; omega⟩, by first | rfl | go_num, by first | rfl | go_num, ⟨fun j hj => by
          have := HY.out
          rcases (by omega : j < i ∨ j = i) with e | e
          · have := HM.out j e; omega
          · subst e; exact Int.le_refl _⟩, ⟨Drawn0.step HD.out _⟩⟩
      · go_wp2
        go_quiet (fail)
        go_wp2
        go_roundg (gk - 1)
        case measure => have := HI.out; omega
        case rel => exact ⟨i + 1, k, ⟨by have := HI.out; omega⟩, by first | rfl | go_num, by first | rfl | go_num, ⟨fun j hj => by
          have := HY.out
          rcases (by omega : j < i ∨ j = i) with e | e
          · exact HM.out j e
          · subst e; omega⟩, ⟨Drawn0.step HD.out _⟩⟩
    · have HMI : Aside0 (k < 8 ∧ ∀ j, j < 8 → es.getD k 0 ≤ es.getD j 0) := ⟨by have := HI.out; omega, fun j hj => HM.out j (by omega)⟩
      have hi8 : ¬ (i : Int) < 8 := by omega
      have hk : k < es.length := by have := HI.out; have := H8.out; omega
      have hkt : k < ts.length := by have := H8.out; omega
      have hbw : Below w.heap.size w wr := HD.out.below
      have HR := Aside0.mk (And.intro (H.out.below hbw) hbw)
      obtain ⟨g3, c3, e3, hce, hfe⟩ := num_row HR.out.1.eps k hk
      cases e3
      obtain ⟨gt, ct, rfl, _, hct0, hct, hft⟩ := own_row HR.out.1.txs (by omega)
      have H2 := Aside0.mk (HR.out.1.over2 k hk x)
      have c3 : (wr.setCell ⟨ge, k, none⟩ (.int .i64 x)).cell? ⟨b, 3, none⟩ = some (.slice (some ⟨gt, 0, none⟩) ts.length ct) := (blk_cell H2.out.box 3).trans rfl
      obtain ⟨gt2, ct2, e2, _, _, hct2, hft2⟩ := own_row H2.out.txs (by omega)
      obtain ⟨rfl, rfl⟩ : gt = gt2 ∧ ct = ct2 := by simpa using e2
      have hcc := hct2 k hkt
      have hff := hft2 k
      clear hct hft hct2 hft2 e2 c2 hlt hbw hct0
      generalize ts.getD k ByteArray.empty = y at hcc
      generalize hze : es.getD k 0 = z at hce
      clear hze
      go_wp2
      go_ret
      exact ⟨rfl, (turned_rs (H2.out.over3 k hkt s) ((((Ch.of_below HR.out.2) : Ch (FB b rv dv _ _) w wr).set (.inr (.inr (.inr (.inl rfl))))).set (.inr (.inr (.inr (.inr rfl))))) (fun k e => .inl e) (fun k e => .inl e) (fun k e => .inl e) (fun k e => .inl e)).mono fun F w hx => ⟨_, _, rkept_ok (by omega) (by omega) (.inr (.inr ⟨HF.out, H8.out.1, k, HMI.out.1, HMI.out.2, rfl, rfl⟩)), hx⟩⟩
theorem keep_y (x : Int) (s : ByteArray) (h : YB B b rs ds es ts F w) (hB : B ≤ w.heap.size) (h8 : es.length ≤ 8) (hl : ts.length = es.length) :
    Calls Try.prog FK #[.pointer (some ⟨b, 0, none⟩), .int .i64 x, .string s] w fun e w' => e = .returned (.int .i64 (keepR x s)) ∧ Turned (RKp es ts x s B b rs ds) F w w' := by
  obtain ⟨rv, dv, ev, tv, h, rfl⟩ := h
  have stay : ∀ r, keepR x s = r → RKept es ts x s r es ts → Turned (RKp es ts x s B b rs ds) (FB b rv dv ev tv) w w := fun r hr hk => Turned.refl ⟨es, ts, hr ▸ hk, rv, dv, ev, tv, h, rfl⟩
  by_cases h1 : x < 1
  · have hr : keepR x s = 1 := by unfold keepR; rw [if_pos h1]
    refine (rkeep_bad x s b w h1).mono ?_
    rintro e w' ⟨rfl, rfl⟩
    exact ⟨by rw [hr], stay 1 hr (by unfold RKept; rw [if_pos h1]; exact ⟨rfl, rfl, rfl⟩)⟩
  by_cases h2 : 256 < s.size
  · have hr : keepR x s = 5 := by unfold keepR; rw [if_neg h1, if_pos h2]
    refine (rkeep_long x s b w (by omega) h2).mono ?_
    rintro e w' ⟨rfl, rfl⟩
    exact ⟨by rw [hr], stay 5 hr (by unfold RKept; rw [if_neg h1, if_pos h2]; exact ⟨rfl, rfl, rfl⟩)⟩
  rw [keepR_ok h1 h2]
  by_cases hf : ∃ k : Nat, k < es.length ∧ es.getD k 0 = x
  · exact rkeep_over x s w h hB h8 hl (by omega) (by omega) hf
  have hn : ∀ i : Nat, i < es.length → es.getD i 0 ≠ x := fun i hi e => hf ⟨i, hi, e⟩
  by_cases h9 : es.length = 8
  · exact rkeep_full x s w h hB h9 hl (by omega) (by omega) hn
  · exact rkeep_add x s w h hB (by omega) hl (by omega) (by omega) hn
end
end Go.Proofs.Ytfijbhacobjjgac
