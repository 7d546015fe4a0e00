/- The document's Drop. -/
import Derived.Test.YtfijbhacobjjgagDocC
namespace Go.Proofs.Ytfijbhacobjjgag
open Go.RowKit Go.Proofs.YtfijbhacobjjgagW.PrintWords Go.Proofs.YtfijbhacobjjgagW.PrintLast Go.Proofs.YtfijbhacobjjgagW.PrintMore Go.Proofs.Ytfijbhacobjjgag.Fr
set_option linter.unusedVariables false
set_option linter.unusedSimpArgs false
attribute [local go_sem] max2_int min2_int max_two min_two

open Pl Hp
theorem own_keep {w w1 : World} {B sz n : Nat} {e : TypeId} {v : Value} {xs : List Value} {r : Option Nat} (h : w.ownsRow B e sz v n xs) (hg : w.grownBy w1 r) (hr : ∀ k, v.ownBlock = some k → r ≠ some k) : w1.ownsRow B e sz v n xs :=
  (Ch.grown (S := fun k => r = some k) hg (fun k e => e)).own h (fun k e => hr k e)
theorem own_two {w : World} {B B' sz sz' n n' : Nat} {e e' : TypeId} {v v' : Value} {xs xs' : List Value} (h : w.ownsRow B e sz v n xs) (h' : w.ownsRow B' e' sz' v' n' xs') (hne : e ≠ e') : ∀ k, v.ownBlock = some k → v'.ownBlock ≠ some k := fun k e1 e2 => by
  obtain ⟨c1, h1⟩ := own_typed h k e1
  obtain ⟨c2, h2⟩ := own_typed h' k e2
  rw [h1] at h2
  injection h2 with h2
  injection h2 with _ h2
  exact hne h2
theorem dropE_acs (n : Int) (D : List E) (i : Nat) (hi : i < D.length) (h : (D.getD i ez).a.nd ≠ n) : aas (dropE n (D.take i)) ++ ac (D.getD i ez).a = aas (dropE n (D.take (i + 1))) ∧ tms (dropE n (D.take i)) ++ [.int .i64 (D.getD i ez).t] = tms (dropE n (D.take (i + 1))) ∧ (dropE n (D.take (i + 1))).length = (dropE n (D.take i)).length + 1 := by
  rw [dropE_step n D i hi, if_neg h]
  exact ⟨by simp [aas, acs], by simp [tms], by simp⟩
section
variable {B b : Nat} {w w1 : World} {pa pt : Option (Nat × Nat)} {ca ct : Nat} {now : Int} {D : List E} {S : Nat → Prop}
def RDropPost (B b : Nat) (now : Int) (D : List E) (n : Int) (W : World) (e : Ending) (w' : World) : Prop :=
  ∃ pa1 pt1 ca1 ct1, e = .returned (.int .i64 ((D.length : Int) - (dropE n D).length)) ∧ DS B w' b pa1 pt1 ca1 ct1 now (dropE n D) ∧ Ch (fun i => i = b) W w' ∧ (∀ q, pa1 = some q → W.heap.size ≤ q.1) ∧ ∀ q, pt1 = some q → W.heap.size ≤ q.1
theorem DS.low (h : DS B w b pa pt ca ct now D) (hb : Below w.heap.size w w1) : DS B w1 b pa pt ca ct now D := h.below hb
set_option maxRecDepth 100000 in
set_option maxHeartbeats 8000000 in
theorem rdrop_any (n : Int) (w0 : World) (h : DS B w0 b pa pt ca ct now D) (hB : B ≤ w0.heap.size) (hl : D.length ≤ 1000) :
    Calls Try.prog 18 #[.pointer (some ⟨b, 0, none⟩), .int .i64 n] w0 (RDropPost B b now D n w0) := by
  obtain ⟨m, hm⟩ : ∃ m, D.length = m := ⟨_, rfl⟩
  have H := Aside0.mk (And.intro h (And.intro hm hB))
  rw [hm] at hl
  clear h hm hB
  go_enter Try.func18, Try.ntmps18
  go_wp2_with fail
  go_loopg [5, 6, 7] m (fun d x5 x6 x7 wr => ∃ (i r : Nat) (A1 A2 : Option Addr) (c1 c2 : Nat), Aside0 (i + d = m ∧ r = (dropE n (D.take i)).length ∧ r ≤ i) ∧ x7 = .int .i64 i ∧ x5 = .slice A1 r c1 ∧ x6 = .slice A2 r c2 ∧ Aside0 (wr.ownsRow w0.heap.size 28 5 (.slice A1 r c1) r (aas (dropE n (D.take i))) ∧ wr.ownsRow w0.heap.size 3 1 (.slice A2 r c2) r (tms (dropE n (D.take i))) ∧ Below w0.heap.size w0 wr))
  case atStart => exact ⟨0, 0, none, none, 0, 0, ⟨by omega, by simp [dropE], by omega⟩, rfl, rfl, rfl, ⟨own_nil _ _ _ _, own_nil _ _ _ _, Below.refl _ _⟩⟩
  case round =>
    obtain ⟨i, r, A1, A2, c1, c2, HI, rfl, rfl, rfl, HW⟩ := hrel
    have hds := H.out.1.below HW.out.2.2
    have hbx := hds.box
    rw [H.out.2.1] at hbx
    by_cases hlt : i < m
    · obtain ⟨ga, oa, e, x, hx, e0, e1, e2, e3, e4⟩ := hds.ra.act i (by rw [List.length_map, H.out.2.1]; exact hlt)
      obtain ⟨gt, ot, e', et⟩ := hds.rt.tm i (by rw [H.out.2.1]; exact hlt)
      rw [e, e'] at hbx
      simp only [ap, Option.map_some] at hbx
      obtain ⟨ti, hti⟩ : ∃ ti, (D.getD i ez).t = ti := ⟨_, rfl⟩
      have hxa : (D.getD i ez).a = x := by
        rw [List.getElem?_map, List.getElem?_eq_getElem (by rw [H.out.2.1]; exact hlt)] at hx
        rw [List.getD_eq_getElem?_getD, List.getElem?_eq_getElem (by rw [H.out.2.1]; exact hlt)]
        simpa using hx
      rw [hti] at et
      have k1 : wr.cell? ⟨b, 1, none⟩ = some (.slice (some ⟨ga, oa, none⟩) m ca) := (blk_cell hbx 1).trans rfl
      have hli : (i : Int) < m := by omega
      by_cases hn : x.nd = n
      · have hq : (x.nd != n) = false := by simp [hn]
        have HE : Aside0 (dropE n (D.take (i + 1)) = dropE n (D.take i)) := ⟨by rw [dropE_step n D i (by rw [H.out.2.1]; exact hlt), hxa, if_pos hn]⟩
        clear hn hx hxa hti e e' hds hbx
        go_wp2
        go_roundg (gk - 1)
        case measure => have := HI.out; omega
        case rel => exact ⟨i + 1, r, A1, A2, c1, c2, ⟨by have := HI.out; omega, by rw [HE.out]; exact HI.out.2.1, by have := HI.out; omega⟩, by go_num, rfl, rfl, ⟨by rw [HE.out]; exact HW.out⟩⟩
      · have hq : (x.nd != n) = true := by simp [hn]
        have HE : Aside0 (aas (dropE n (D.take i)) ++ ac x = aas (dropE n (D.take (i + 1))) ∧ tms (dropE n (D.take i)) ++ [.int .i64 ti] = tms (dropE n (D.take (i + 1))) ∧ (dropE n (D.take (i + 1))).length = r + 1) := ⟨by
          obtain ⟨q1, q2, q3⟩ := dropE_acs n D i (by rw [H.out.2.1]; exact hlt) (by rw [hxa]; exact hn)
          rw [hxa] at q1
          rw [hti] at q2
          exact ⟨q1, q2, by rw [q3, HI.out.2.1]⟩⟩
        have HP : Aside0 (wr.heap[b]? = some (.cells #[.int .i64 now, .slice (some ⟨ga, oa, none⟩) m ca, .slice (some ⟨gt, ot, none⟩) m ct] 38 (0, 0)) ∧ wr.cell? ⟨gt, ot + i, none⟩ = some (.int .i64 ti) ∧ b < w0.heap.size ∧ gt < w0.heap.size) := ⟨hbx, et, blk_lt H.out.1.box, (H.out.1.bt _ e').2.2⟩
        have hsz := HW.out.2.2.size
        clear hn hx hxa hti e e' hds hbx et
        go_upto_region 8 with ((with_reducible refine gate_dst (N := 37) rfl ?_); refine app_cells (w0 := _) w0.heap.size rfl (.tmp 28) (.tmp 36) 36 28 (.agg #[.int .i64 0, .int .i64 0, .int .i64 0, .bool false, .string ByteArray.empty]) 5 48 wr.heap.size rfl Try.underlying36 infoA5 rfl (by decide) (by decide) (.slice A1 r c1) r (aas (dropE n (D.take i))) [.int .i64 x.k, .int .i64 x.nd, .int .i64 x.n, .bool x.up, .string x.s] rfl rfl rfl rfl (by simp [Value.oneCell']) HW.out.1 (Below.refl _ _) hsz (by have := HI.out; omega) ?_; intro v1 w1 hown hbel hgrow hat; have HW1 := Aside0.mk (And.intro hown (And.intro hbel hgrow)); clear hown hbel hgrow hat)
        have hr5 : w1.ownsRow w0.heap.size 28 5 v1 (r + 1) (aas (dropE n (D.take (i + 1)))) := by
          rw [← HE.out.1]; exact HW1.out.1
        obtain ⟨p5, c5, rfl, _⟩ := own_rdc hr5
        have hr6 : w1.ownsRow w0.heap.size 3 1 (.slice A2 r c2) r (tms (dropE n (D.take i))) := own_keep HW.out.2.1 HW1.out.2.2 (fun k e => own_two HW.out.2.1 HW.out.1 (by decide) k e)
        have hb1 : w1.heap[b]? = some (.cells #[.int .i64 now, .slice (some ⟨ga, oa, none⟩) m ca, .slice (some ⟨gt, ot, none⟩) m ct] 38 (0, 0)) := by rw [HW1.out.2.1.block b HP.out.2.2.1]; exact HP.out.1
        have k2 : w1.cell? ⟨b, 2, none⟩ = some (.slice (some ⟨gt, ot, none⟩) m ct) := (blk_cell hb1 2).trans rfl
        have et : w1.cell? ⟨gt, ot + i, none⟩ = some (.int .i64 ti) := (World.cell?_of_block (w := wr) (HW1.out.2.1.block gt HP.out.2.2.2)).trans HP.out.2.1
        have HW2 : Aside0 (w1.ownsRow w0.heap.size 28 5 (.slice (ap p5) (r + 1) c5) (r + 1) (aas (dropE n (D.take (i + 1)))) ∧ w1.ownsRow w0.heap.size 3 1 (.slice A2 r c2) r (tms (dropE n (D.take i))) ∧ Below w0.heap.size w0 w1) := ⟨hr5, hr6, HW.out.2.2.trans HW1.out.2.1⟩
        have hsz1 := HW2.out.2.2.size
        clear hr5 hr6 hb1 HW HW1 HP k1 e0 e1 e2 e3 e4 hsz
        go_wp2_with ((with_reducible refine gate_dst (N := 47) rfl ?_); refine app_cells (w0 := _) w0.heap.size rfl (.tmp 38) (.tmp 46) 22 3 (.int .i64 0) 1 8 w1.heap.size rfl Try.underlying22 info3 rfl (by decide) (by decide) (.slice A2 r c2) r (tms (dropE n (D.take i))) [.int .i64 ti] rfl rfl rfl rfl (by simp [Value.oneCell']) HW2.out.2.1 (Below.refl _ _) hsz1 (by have := HI.out; omega) ?_; intro v2 w2 hown hbel hgrow hat; have HW3 := Aside0.mk (And.intro hown (And.intro hbel hgrow)); clear hown hbel hgrow hat)
        have hr6 : w2.ownsRow w0.heap.size 3 1 v2 (r + 1) (tms (dropE n (D.take (i + 1)))) := by
          rw [← HE.out.2.1]; exact HW3.out.1
        obtain ⟨p6, c6, rfl, _⟩ := own_rdc hr6
        have HW4 : Aside0 (w2.ownsRow w0.heap.size 28 5 (.slice (ap p5) (r + 1) c5) (r + 1) (aas (dropE n (D.take (i + 1)))) ∧ w2.ownsRow w0.heap.size 3 1 (.slice (ap p6) (r + 1) c6) (r + 1) (tms (dropE n (D.take (i + 1)))) ∧ Below w0.heap.size w0 w2) := ⟨own_keep HW2.out.1 HW3.out.2.2 (fun k e => own_two HW2.out.1 HW2.out.2.1 (by decide) k e), hr6, HW2.out.2.2.trans HW3.out.2.1⟩
        clear hr6 HW2 HW3 k2 et hsz1
        go_wp2
        go_roundg (gk - 1)
        case measure => have := HI.out; omega
        case rel => exact ⟨i + 1, r + 1, ap p5, ap p6, c5, c6, ⟨by have := HI.out; omega, HE.out.2.2.symm, by have := HI.out; omega⟩, by go_num, rfl, rfl, HW4⟩
    · have him : i = m := by have := HI.out; omega
      subst him
      have htk : D.take i = D := List.take_of_length_le (Nat.le_of_eq H.out.2.1)
      rw [htk] at HI HW
      obtain ⟨p5, cc5, e5, hle5, hrd5, hob5, hnn5⟩ := own_rdc HW.out.1
      obtain ⟨p6, cc6, e6, hle6, hrd6, hob6, hnn6⟩ := own_rdc HW.out.2.1
      cases e5
      cases e6
      have HR := Aside0.mk (And.intro hrd5 hrd6)
      have HO : Aside0 ((∀ q, p5 = some q → w0.heap.size ≤ q.1 ∧ q.1 < wr.heap.size) ∧ ∀ q, p6 = some q → w0.heap.size ≤ q.1 ∧ q.1 < wr.heap.size) := ⟨fun q e => ⟨own_base HW.out.1 _ (hob5 q e), own_lt HW.out.1 _ (hob5 q e)⟩, fun q e => ⟨own_base HW.out.2.1 _ (hob6 q e), own_lt HW.out.2.1 _ (hob6 q e)⟩⟩
      have HNN := Aside0.mk (And.intro hnn5 hnn6)
      have HLE := Aside0.mk (And.intro hle5 hle6)
      have k1 : wr.cell? ⟨b, 1, none⟩ = some (.slice (ap pa) i ca) := (blk_cell hbx 1).trans rfl
      have f1 := blk_frozen hbx 1
      have hii : ¬ (i : Int) < i := by omega
      have hwg : IntKind.i64.wrap ((i : Int) - r) = (i : Int) - r := by have := HI.out; rw [IntKind.wrap_i64]; omega
      have HBX := Aside0.mk hbx
      clear hlt htk hrd5 hrd6 hob5 hob6 hnn5 hnn6 hle5 hle6 hds hbx
      go_upto_region 11 with fail
      have hb1 := blk_put HBX.out 1 (.slice (ap p5) r c1) (cs' := #[.int .i64 now, .slice (ap p5) r c1, .slice (ap pt) i ct]) rfl
      have hc1 := (Ch.of_below (S := fun k => k = b) HW.out.2.2).set (i := 1) (v := .slice (ap p5) r c1) rfl
      have HB1 := Aside0.mk (And.intro hb1 hc1)
      clear hb1 hc1 k1 f1
      generalize hW1 : wr.setCell ⟨b, 1, none⟩ (.slice (ap p5) r c1) = W1 at HB1 ⊢
      have HW1 := Aside0.mk hW1
      clear hW1
      have k2 : W1.cell? ⟨b, 2, none⟩ = some (.slice (ap pt) i ct) := (blk_cell HB1.out.1 2).trans rfl
      have f2 := blk_frozen HB1.out.1 2
      go_wp2
      go_ret
      have hb2 := blk_put HB1.out.1 2 (.slice (ap p6) r c2) (cs' := #[.int .i64 now, .slice (ap p5) r c1, .slice (ap p6) r c2]) rfl
      have hc2 := HB1.out.2.set (i := 2) (v := .slice (ap p6) r c2) rfl
      have hbw : b < w0.heap.size := blk_lt H.out.1.box
      have hcw : Ch (fun k => k = b) wr (W1.setCell ⟨b, 2, none⟩ (.slice (ap p6) r c2)) := by rw [← HW1.out]; exact ((Ch.refl (fun k => k = b) wr).set rfl).set rfl
      refine ⟨p5, p6, c1, c2, by rw [← HI.out.2.1, H.out.2.1]; rfl, ⟨by rw [← HI.out.2.1]; exact hb2, HR.out.1.ch hcw (fun q e => by have := (HO.out.1 q e).1; omega), HR.out.2.ch hcw (fun q e => by have := (HO.out.2 q e).1; omega), by rw [← HI.out.2.1]; exact HLE.out.1, by rw [← HI.out.2.1]; exact HLE.out.2, fun q e => ?_, fun q e => ?_, HNN.out.1, HNN.out.2, H.out.1.lo⟩, hc2, fun q e => (HO.out.1 q e).1, fun q e => (HO.out.2 q e).1⟩
      · have := HO.out.1 q e; have := hcw.size; have := H.out.2.2; omega
      · have := HO.out.2 q e; have := hcw.size; have := H.out.2.2; omega
end
end Go.Proofs.Ytfijbhacobjjgag
