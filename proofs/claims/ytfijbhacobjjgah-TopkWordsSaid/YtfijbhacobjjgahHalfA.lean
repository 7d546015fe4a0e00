/- A table's Halve. -/
import Derived.Test.YtfijbhacobjjgahOverA
import Derived.Test.YtfijbhacobjjgahLaw49c
namespace Go.Proofs.Ytfijbhacobjjgah
open Go.RowKit Go.Proofs.YtfijbhacobjjgahW.PrintWords Go.Proofs.YtfijbhacobjjgahW.PrintLast Go.Proofs.YtfijbhacobjjgahW.PrintMore Go.Proofs.Ytfijbhacobjjgah.Fr
set_option linter.unusedVariables false
set_option linter.unusedSimpArgs false
attribute [local go_sem] max2_int min2_int max_two min_two

open Pl Hp
open Go.Maps (Keyed)
theorem inv9 {key : Value} {kl : Lit} (h : keyOf Try.prog 9 key = some kl) : ∃ s : ByteArray, key = .string s ∧ kl = ks s ∧ s.size ≤ 9223372036854775807 := by
  cases key <;> simp [keyOf, Try.underlying9, mapKey] at h
  rename_i s
  obtain ⟨h1, h2⟩ := h
  exact ⟨s, rfl, h2.symm, by simpa [maxLen] using h1⟩
theorem next_si {w : World} {ops : Array Oper} {rest : List Oper} {o : Oper} {a : Act} {Q : Exit → Act → World → Prop} (hg : o.guard = none) (it : Operand) (hop : o.op = Op.next it false) (b r n : Nat) (D : DW) (left : Lit → Bool) (cnt : Nat)
    (hit : a.eval it = .pointer (some ⟨r, 0, none⟩)) (h : w.ranges Try.prog 9 EL b r n D left cnt)
    (hDone : cnt = 0 → (∀ kl, left kl = false) → wpList Try.prog ops Q rest (a.put o.dst (.tuple #[.bool false])) w)
    (hMore : ∀ (s : ByteArray) (c : Int) (w' : World) (cnt' : Nat), s.size ≤ 9223372036854775807 → left (ks s) = true → (∀ zd, D.atKey (ks s) zd = vi c) → w'.ranges Try.prog 9 EL b r n D (fun z => left z && !z.sameKey (ks s)) cnt' → cnt' < cnt →
      w.grownBy w' (some r) → (Instr.entry (.pointer (some ⟨r, 0, none⟩))).run Try.prog w' = .ok (.tuple #[.string s, .int .i64 c]) w' → wpList Try.prog ops Q rest (a.put o.dst (.tuple #[.bool true, .string s, .int .i64 c])) w') :
    wpList Try.prog ops Q (o :: rest) a w :=
  wpList_next_ranges w hg it hop 9 law9 EL Value.string (Value.int .i64) (fun key kl hkey => by obtain ⟨s, rfl, _⟩ := inv9 hkey; exact ⟨s, rfl⟩) (fun v y hv => by obtain ⟨c, rfl, _⟩ := plainElem_int_inv Try.underlying3 hv; exact ⟨c, rfl⟩)
    b r n D left cnt hit h hDone (fun s c kl y w' cnt' hkey hlk hv hat hrg hlt hgr hsz hen => by
      obtain ⟨s', es, rfl, hs⟩ := inv9 hkey
      cases es
      obtain ⟨c', ec, rfl, hwc⟩ := plainElem_int_inv Try.underlying3 hv
      cases ec
      exact hMore s c w' cnt' hs hlk hat hrg hlt hgr hen)
theorem _root_.Go.Proofs.Ytfijbhacobjjgah.Fr.Ch.row2 {S : Nat → Prop} {w w1 w2 : World} {r : Nat} (h : Ch S w w1) (k : w1.grownBy w2 (some r)) (hr : w.heap.size ≤ r ∨ S r) : Ch S w w2 :=
  ⟨k.os.trans h.os, k.tape.trans h.tape, k.output.trans h.output, Nat.le_trans h.size k.size, fun i hi hs => (k.block i (Nat.lt_of_lt_of_le hi h.size) (fun e => by cases e; rcases hr with e | e; omega; exact hs e)).trans (h.block i hi hs)⟩
theorem half_step {w2 : World} {md r n cnt1 : Nat} {D : DW} {L : List It} {left : Lit → Bool} {s : ByteArray} {c : Int} (h : HV D L left) (hc : ∀ x ∈ L, 0 ≤ x.c ∧ x.c ≤ 1099511627776) (hn : n ≤ 1000) (hs : s.size ≤ 9223372036854775807) (hl : left (ks s) = true) (hat : ∀ z, D.atKey (ks s) z = vi c)
    (hrg : w2.ranges Try.prog 9 EL md r n D (fun z => left z && !z.sameKey (ks s)) cnt1) : (0 ≤ c ∧ c ≤ 1099511627776) ∧ ∃ w3, (Instr.mapUpdate 49 (.map (some md)) (.string s) (.int .i64 (c / 2))).run Try.prog w2 = .ok () w3 ∧ w2.mapTurned w3 md ∧
      ((c / 2 = 0 ∧ ∃ w4 cnt2 D4, (Builtin.delete_ #[49, 9] 0 #[.map (some md), .string s]).run Try.prog w3 = .ok (.tuple #[]) w4 ∧ w3.mapTurned w4 md ∧ w4.ranges Try.prog 9 EL md r n D4 (fun z => left z && !z.sameKey (ks s)) cnt2 ∧ cnt2 ≤ cnt1 ∧ HV D4 L (fun z => left z && !z.sameKey (ks s)) ∧ gon (fun z => left z && !z.sameKey (ks s)) L = gon left L + 1) ∨
       (0 < c / 2 ∧ ∃ D3, w3.ranges Try.prog 9 EL md r n D3 (fun z => left z && !z.sameKey (ks s)) cnt1 ∧ HV D3 L (fun z => left z && !z.sameKey (ks s)) ∧ gon (fun z => left z && !z.sameKey (ks s)) L = gon left L)) := by
  obtain ⟨x, hx, rfl, rfl⟩ := h.mem hat hl
  have hcx := hc x hx
  have hwf : (Lit.int .i64 (x.c / 2)).wf = true := WalkArith.wf_i64 (by omega)
  obtain ⟨w3, hrun, hr3, ht3⟩ := ranges_over hrg law9 Try.underlying49 (by simp only [maxLen]; omega) (key9 hs) (val := .int .i64 (x.c / 2)) (plainElem_int Try.underlying3 hwf) (Maps.has_true_of_atKey hat)
  refine ⟨hcx, w3, hrun, ht3, ?_⟩
  by_cases h0 : x.c / 2 = 0
  · left
    obtain ⟨w4, cnt2, hrun4, hr4, hle, ht4⟩ := hr3.drop law9 Try.underlying49 (key9 hs) 0
    rw [Maps.strike_twice] at hr4
    exact ⟨h0, w4, cnt2, _, hrun4, ht4, hr4, hle, h.gone hx hl h0, by rw [gon_flip h.nd hx hl, if_pos h0]⟩
  · right
    have h1 : 0 < x.c / 2 := by omega
    exact ⟨h1, _, hr3, h.half hx hl h1, by rw [gon_flip h.nd hx hl, if_neg h0]; rfl⟩
section
variable {B : Nat} {w w1 : World} {g md room : Nat} {D : DW} {L : List It}
def HalvePost (B g md room : Nat) (L : List It) (W : World) (e : Ending) (w' : World) : Prop := ∃ D', e = .returned (.int .i64 ((L.length : Int) - (halL L).length)) ∧ TB B w' g md room D' (halL L) ∧ Ch (fun i => i = md) W w'
set_option maxRecDepth 100000 in
set_option maxHeartbeats 4000000 in
theorem thalve_any (w : World) (h : TB B w g md room D L) : Calls Try.prog 11 #[.pointer (some ⟨g, 0, none⟩)] w (HalvePost B g md room L w) := by
  have c1 : w.cell? ⟨g, 1, none⟩ = some (.map (some md)) := (blk_cell h.box 1).trans rfl
  have H := Aside0.mk h
  obtain ⟨n, hn⟩ : ∃ n, Maps.size D = n := ⟨_, rfl⟩
  have hn2 : n ≤ 1000 := by rw [← hn, h.rel.sz]; have := h.wl.len; have := h.r1; omega
  have HM : Aside0 (w.ownsMap Try.prog 9 EL md n D) := ⟨hn ▸ h.map⟩
  have HLT : Aside0 (g < w.heap.size ∧ md < w.heap.size ∧ L.length ≤ 1000) := ⟨blk_lt h.box, h.map.lt, by have := h.wl.len; have := h.r1; omega⟩
  clear h hn
  go_enter Try.func11, Try.ntmps11
  go_wp2_with (at_range; refine wpList_range_own _ rfl _ 49 rfl 9 3 law9 Try.underlying49 _ md n D rfl HM.out ?_; intro w1 hrg hg0 hs0; have HR := Aside0.mk (And.intro hrg (And.intro hg0 hs0)); clear hrg hg0 hs0)
  go_frame
  go_loopg [3] (Maps.size D) (fun d x wr => ∃ (left : Lit → Bool) (Di : DW) (gn : Nat), x = .int .i64 gn ∧ Aside0 (wr.ranges Try.prog 9 EL md w.heap.size n Di left d) ∧ Aside0 (HV Di L left ∧ gn = gon left L ∧ gn ≤ 1000) ∧ Aside0 (Ch (fun i => i = md) w wr))
  case atStart => exact ⟨_, D, 0, rfl, ⟨HR.out.1⟩, ⟨HV.start H.out.rel (H.out.map.tidy law9), (gon_start D L (fun x hx => (H.out.rel.at_ x hx).1)).symm, by omega⟩, ⟨(Ch.refl (fun i => i = md) w).trans (Ch.grown HR.out.2.1 (fun k e => by cases e))⟩⟩
  case round =>
    clear HR
    obtain ⟨left, Di, gn, rfl, HR, HL, HB⟩ := hrel
    have hgn : (gn : Int) ≤ 1000 := by have := HL.out; omega
    go_wp2_with (at_next; refine next_si rfl _ rfl md w.heap.size n Di left gk rfl HR.out ?hD ?hM; (case' hD => intro hc0 hl0; have HZ := Aside0.mk hl0; clear hc0 hl0); (case' hM => intro s c w2 cnt1 hsz hlx hat hrg1 hlt hg1 hen; obtain ⟨hcb, w3, hup, ht3, hor⟩ := half_step HL.out.1 H.out.wl.cs hn2 hsz hlx hat hrg1; obtain ⟨h2, hh2⟩ : ∃ h2, c / 2 = h2 := ⟨_, rfl⟩; have hdv : c.tdiv 2 = h2 := (by rw [Int.tdiv_eq_ediv_of_nonneg hcb.1]; exact hh2); rw [hh2] at hup hor; have hb0 : 0 ≤ h2 := (by omega); have hb1 : h2 ≤ 1099511627776 := (by omega); have hw2 : wrap64 h2 = h2 := (by unfold wrap64; omega); have HC2 : Aside0 (Ch (fun i => i = md) w w2) := ⟨HB.out.row2 hg1 (.inl (Nat.le_refl _))⟩; have HC3 : Aside0 (Ch (fun i => i = md) w w3) := ⟨HC2.out.trans (ch_turned ht3)⟩; have k2 : w2.cell? ⟨g, 1, none⟩ = some (.map (some md)) := (blk_cell (HC2.out.blk H.out.box (Ne.symm H.out.ne)) 1).trans rfl; have k3 : w3.cell? ⟨g, 1, none⟩ = some (.map (some md)) := (blk_cell (HC3.out.blk H.out.box (Ne.symm H.out.ne)) 1).trans rfl; have HLT2 := Aside0.mk hlt; clear hsz hlx hat hrg1 hlt hg1 ht3 hcb hh2; rcases hor with ⟨h0, w4, cnt2, D4, hdel, ht4, hr4, hle, hv4, hg4⟩ | ⟨h0, D3, hr3, hv3, hg3⟩; have hq : (h2 == 0) = true := beq_iff_eq.2 h0; have HF := Aside0.mk (And.intro hr4 (And.intro hle (And.intro hv4 (And.intro hg4 (HC3.out.trans (ch_turned ht4)))))); clear h0 ht4 hr4 hle hv4 hg4; rotate_left; have hq : (h2 == 0) = false := beq_eq_false_iff_ne.2 (by omega); have HF := Aside0.mk (And.intro hr3 (And.intro hv3 hg3)); clear h0 hr3 hv3 hg3; rotate_left))
    · go_roundg cnt2
      case measure => have := HF.out.2.1; have := HLT2.out; omega
      case rel => exact ⟨_, D4, gn + 1, by go_num, ⟨HF.out.1⟩, ⟨HF.out.2.2.1, by rw [HF.out.2.2.2.1, HL.out.2.1], by
        have h1 := HF.out.2.2.2.1
        have h2 := List.length_filter_le (fun x => !(fun z : Lit => left z && !z.sameKey (ks s)) (ks x.t) && decide (x.c / 2 = 0)) L
        have h3 := HLT.out.2.2
        have h4 := HL.out.2.1
        unfold gon at h1 h4
        omega⟩, ⟨HF.out.2.2.2.2⟩⟩
    · go_roundg cnt1
      case measure => exact HLT2.out
      case rel => exact ⟨_, D3, gn, rfl, ⟨HF.out.1⟩, ⟨HF.out.2.1, by rw [HF.out.2.2]; exact HL.out.2.1, HL.out.2.2⟩, HC3⟩
    · go_ret
      refine ⟨Di, ?_, ⟨HB.out.blk H.out.box (Ne.symm H.out.ne), own_tight HR.out.owns, HL.out.1.done HZ.out (fun x hx => (H.out.wl.cs x hx).1), H.out.wl.half, H.out.r1, H.out.lo, H.out.lom, H.out.ne⟩, HB.out⟩
      have h1 := gon_end HZ.out L (fun x hx => (H.out.wl.cs x hx).1)
      have h2 := HL.out.2.1
      rw [show ((L.length : Int) - (halL L).length) = gn by omega]
      rfl
end
end Go.Proofs.Ytfijbhacobjjgah
