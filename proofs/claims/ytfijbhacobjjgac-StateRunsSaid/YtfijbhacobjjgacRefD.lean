/- The document's Keep: one more dictionary; one too many. -/
import Derived.Test.YtfijbhacobjjgacRefC
namespace Go.Proofs.Ytfijbhacobjjgac
open Go.RowKit Go.Proofs.YtfijbhacobjjgacW.PrintWords Go.Proofs.YtfijbhacobjjgacW.PrintLast Go.Proofs.YtfijbhacobjjgacW.PrintMore Go.Proofs.Ytfijbhacobjjgac.Fr
set_option linter.unusedVariables false
set_option linter.unusedSimpArgs false
attribute [local go_sem] max2_int min2_int max_two min_two

open Go.Maps
section
variable {B : Nat} {a w w1 : World} {b : Nat} {rv dv ev tv rv1 dv1 ev1 tv1 : Value} {rs ds ts rs1 ds1 ts1 : List ByteArray} {es es1 : List Int} {F : Nat → Prop}
set_option maxRecDepth 100000 in
theorem rkeep_add (x : Int) (s : ByteArray) (w : World) (h : RS B w b rv dv ev tv rs ds es ts) (hB : B ≤ w.heap.size) (h8 : es.length < 8) (hl : ts.length = es.length) (h1 : 1 ≤ x) (h2 : s.size ≤ 256) (hf : ∀ i : Nat, i < es.length → es.getD i 0 ≠ x) :
    Calls Try.prog FK #[.pointer (some ⟨b, 0, none⟩), .int .i64 x, .string s] w fun e w' => e = .returned (.int .i64 0) ∧ Turned (RKp es ts x s B b rs ds) (FB b rv dv ev tv) w w' := by
  have hk0 : ¬ x < 1 := by omega
  have hs : ¬ (256 : Int) < (s.size : Int) := by omega
  have H := Aside0.mk h
  have HF := Aside0.mk hf
  obtain ⟨A2, ce, hev, _⟩ := own_nums h.eps
  have HE := Aside0.mk hev
  have c2 : w.cell? ⟨b, 2, none⟩ = some (.slice A2 es.length ce) := hev ▸ (blk_cell h.box 2).trans rfl
  have hq8 : ((es.length : Int) == 8) = false := by simp; omega
  have HLL := Aside0.mk hl
  clear hf h hev hl
  go_enter Try.func21, Try.ntmps21
  go_wp2_with fail
  refine (at_any x _ H.out (by omega)).mono ?_
  rintro e w1 ⟨⟨r, rfl, hr⟩, rfl⟩
  rcases hr with ⟨rfl, hn⟩ | ⟨k, hk, rfl, he⟩
  rotate_left
  · exact absurd he (HF.out k hk)
  clear hn
  go_wp2_with (first
    | ((with_reducible refine gate_dst (N := 56) rfl ?_); refine print_append (w0 := w) B rfl (.tmp 53) (.tmp 55) 37 3 (.int .i64 0) 8 rfl Try.underlying37 info3 (by rfl) (by decide) (.slice A2 es.length ce) (nums .i64 es) (.int .i64 x) rfl rfl (by rfl) (by rw [nums_length]; exact HE.out ▸ H.out.eps) (Below.refl _ _) hB (by rw [nums_length]; omega) ?_; intro v1 w1 hown hbel hgrow hat; (rw [nums_snoc] at hown); obtain ⟨A1, c1, rfl, hc1, _⟩ := own_nums hown; have hl1 : (es ++ [x]).length = es.length + 1 := (by simp); (rw [← HE.out] at hgrow hat); have hcg : Ch (fun i => some i = ev.ownBlock) w w1 := Ch.grown hgrow (fun k e => e.symm); have hatk : ∀ k, (Value.slice A1 (es ++ [x]).length c1).ownBlock = some k → ev.ownBlock = some k ∨ w.heap.size ≤ k := (fun k e => by rcases hat with e2 | ⟨q, e2, hq⟩; exact .inl (e2 ▸ e); (rw [e2] at e; cases e; exact .inr hq)); have H2 := Aside0.mk (And.intro (H.out.put2 hcg H.out.ne (fun k e e2 => H.out.re k e e2.symm) (fun k e e2 => H.out.de k e e2.symm) (fun k e e2 => H.out.et k e2.symm e) (by rw [nums_length] at hown; exact hown) hatk) (And.intro hcg hatk)); (rw [hl1] at H2 ⊢); have hk2 := hcg.blk H.out.box H.out.ne; have k2 : w1.cell? ⟨b, 2, none⟩ = some ev := (blk_cell hk2 2).trans rfl; have f2 := blk_frozen hk2 2; obtain ⟨A3, ct, htv, _⟩ := own_rds H2.out.1.txs; have HT := Aside0.mk htv; have c3 : (w1.setCell ⟨b, 2, none⟩ (.slice A1 (es.length + 1) c1)).cell? ⟨b, 3, none⟩ = some (.slice A3 ts.length ct) := (htv ▸ (blk_cell H2.out.1.box 3).trans rfl); clear hown hbel hgrow hat hc1 hcg hatk hk2 htv)
    | ((with_reducible refine gate_dst (N := 66) rfl ?_); refine print_append (w0 := w1.setCell ⟨b, 2, none⟩ (.slice A1 (es.length + 1) c1)) B rfl (.tmp 63) (.tmp 65) 26 9 (.string ByteArray.empty) 16 rfl Try.underlying26 info9 (by rfl) (by decide) (.slice A3 ts.length ct) (svals ts) (.string s) rfl (by rw [show (w1.setCell ⟨b, 2, none⟩ (.slice A1 (es.length + 1) c1)).heap.size = w1.heap.size by simp [World.setCell]]; rfl) (by rfl) (HT.out ▸ H2.out.1.txs) (Below.refl _ _) (Nat.le_trans hB (by have := H2.out.2.1.size; simpa [World.setCell] using this)) (by rw [svals_length]; have := HLL.out; omega) ?_; intro v2 w2 hown hbel hgrow hat; (rw [svals_snoc] at hown); obtain ⟨A4, c4, rfl, hc4, _⟩ := own_rds hown; have hl2 : (ts ++ [s]).length = ts.length + 1 := (by simp); (rw [← HT.out] at hgrow hat); have hcg : Ch (fun i => some i = tv.ownBlock) (w1.setCell ⟨b, 2, none⟩ (.slice A1 (es.length + 1) c1)) w2 := Ch.grown hgrow (fun k e => e.symm); have hatk : ∀ k, (Value.slice A4 (ts ++ [s]).length c4).ownBlock = some k → tv.ownBlock = some k ∨ (w1.setCell ⟨b, 2, none⟩ (.slice A1 (es.length + 1) c1)).heap.size ≤ k := (fun k e => by rcases hat with e2 | ⟨q, e2, hq⟩; exact .inl (e2 ▸ e); (rw [e2] at e; cases e; exact .inr hq)); have H3 := Aside0.mk (And.intro (H2.out.1.put3 hcg H2.out.1.nt (fun k e e2 => H2.out.1.rt k e e2.symm) (fun k e e2 => H2.out.1.dt k e e2.symm) (fun k e e2 => H2.out.1.et k e e2.symm) (by rw [svals_length] at hown ⊢; exact hown) hatk) (And.intro hcg hatk)); (rw [hl2] at H3 ⊢); have hk3 := hcg.blk H2.out.1.box H2.out.1.nt; have k3 : w2.cell? ⟨b, 3, none⟩ = some tv := (blk_cell hk3 3).trans rfl; have f3 := blk_frozen hk3 3; clear hown hbel hgrow hat hc4 hcg hatk hk3))
  go_ret
  have hz : w.heap.size ≤ (w1.setCell ⟨b, 2, none⟩ (.slice A1 (es.length + 1) c1)).heap.size := by have := H2.out.2.1.size; simpa [World.setCell] using this
  refine ⟨rfl, (turned_rs H3.out.1 ?_ (fun k e => .inl e) (fun k e => .inl e) H2.out.2.2 (fun k e => ?_)).mono fun F w hx => ⟨_, _, rkept_ok (by omega) (by omega) (.inr (.inl ⟨HF.out, by omega, rfl, rfl⟩)), hx⟩⟩
  · refine Ch.set (Ch.trans (Ch.set (H2.out.2.1.mono ?_) (.inl rfl)) (H3.out.2.1.mono ?_)) (.inl rfl)
    · exact fun i _ e => .inr (.inr (.inr (.inl e)))
    · exact fun i _ e => .inr (.inr (.inr (.inr e)))
  · rcases H3.out.2.2 k e with e2 | e2
    · exact .inl e2
    · exact .inr (Nat.le_trans hz e2)
end
end Go.Proofs.Ytfijbhacobjjgac
