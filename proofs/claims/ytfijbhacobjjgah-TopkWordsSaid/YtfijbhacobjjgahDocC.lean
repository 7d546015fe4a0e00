/- The document's Halve. -/
import Derived.Test.YtfijbhacobjjgahDocB
namespace Go.Proofs.Ytfijbhacobjjgah
open Go.RowKit Go.Proofs.YtfijbhacobjjgahW.PrintWords Go.Proofs.YtfijbhacobjjgahW.PrintLast Go.Proofs.YtfijbhacobjjgahW.PrintMore Go.Proofs.Ytfijbhacobjjgah.Fr
set_option linter.unusedVariables false
set_option linter.unusedSimpArgs false
attribute [local go_sem] max2_int min2_int max_two min_two

open Pl Hp
theorem halL_step (L : List It) (i : Nat) (hi : i < L.length) : halL (L.take (i + 1)) = if 0 < (L.getD i ez).c / 2 then halL (L.take i) ++ [⟨(L.getD i ez).t, (L.getD i ez).c / 2⟩] else halL (L.take i) := by
  rw [List.take_succ_eq_append_getElem hi, halL_snoc, List.getD_eq_getElem?_getD, List.getElem?_eq_getElem hi]
  rfl
def RHalvePost (B b room : Nat) (L : List It) (W : World) (e : Ending) (w' : World) : Prop := ∃ v1, e = .returned (.int .i64 ((L.length : Int) - (halL L).length)) ∧ DT B w' b room v1 (halL L) ∧ Ch (fun i => i = b) W w' ∧ ∀ k, v1.ownBlock = some k → W.heap.size ≤ k
section
variable {B b room : Nat} {w w1 : World} {v : Value} {L : List It} {S : Nat → Prop}
set_option maxRecDepth 100000 in
set_option maxHeartbeats 8000000 in
theorem rhalve_any (w0 : World) (h : DT B w0 b room v L) (hB : B ≤ w0.heap.size) (hw : WL room L) (hr : room ≤ 1000) : Calls Try.prog 12 #[.pointer (some ⟨b, 0, none⟩)] w0 (RHalvePost B b room L w0) := by
  have hl : L.length ≤ 1000 := by have := hw.len; omega
  obtain ⟨A, c0, rfl, hlc⟩ := h.slice
  obtain ⟨m, hm⟩ : ∃ m, L.length = m := ⟨_, rfl⟩
  have H := Aside0.mk (And.intro h (And.intro hm (And.intro hB hw)))
  have HBB : Aside0 (b < w0.heap.size) := ⟨blk_lt h.box⟩
  rw [hm] at hl
  clear h hm hB hw hlc hr
  go_enter Try.func12, Try.ntmps12
  go_wp2_with fail
  go_loopg [3, 4] m (fun d x3 x4 wr => ∃ (i r : Nat) (A1 : Option Addr) (c1 : Nat), Aside0 (i + d = m ∧ r = (halL (L.take i)).length ∧ r ≤ i) ∧ x4 = .int .i64 i ∧ x3 = .slice A1 r c1 ∧ Aside0 (wr.ownsRow w0.heap.size 37 2 (.slice A1 r c1) r (ents (halL (L.take i))) ∧ Below w0.heap.size w0 wr))
  case atStart => exact ⟨0, 0, none, 0, ⟨by omega, by simp [halL], by omega⟩, rfl, rfl, ⟨own_nil _ _ _ _, Below.refl _ _⟩⟩
  case round =>
    obtain ⟨i, r, A1, c1, HI, rfl, rfl, HW⟩ := hrel
    have hds := H.out.1.below HW.out.2
    have hbx := hds.box
    rw [H.out.2.1] at hbx
    have k1 : wr.cell? ⟨b, 1, none⟩ = some (.slice A m c0) := (blk_cell hbx 1).trans rfl
    by_cases hlt : i < m
    · obtain ⟨g, rfl, a0, a1, _⟩ := own_item hds.row i (by rw [H.out.2.1]; exact hlt)
      have hst := halL_step L i (by rw [H.out.2.1]; exact hlt)
      have hcb : 0 ≤ (L.getD i ez).c ∧ (L.getD i ez).c ≤ 1099511627776 := by
        rw [List.getD_eq_getElem?_getD, List.getElem?_eq_getElem (by rw [H.out.2.1]; exact hlt)]
        exact H.out.2.2.2.cs _ (List.getElem_mem _)
      obtain ⟨ti, hti⟩ : ∃ ti, (L.getD i ez).t = ti := ⟨_, rfl⟩
      obtain ⟨ci, hci⟩ : ∃ ci, (L.getD i ez).c = ci := ⟨_, rfl⟩
      obtain ⟨hc, hhc⟩ : ∃ hc, ci / 2 = hc := ⟨_, rfl⟩
      rw [hti, hci, hhc] at hst
      rw [hti] at a0
      rw [hci] at a1 hcb
      have hli : (i : Int) < m := by omega
      have hdv : ci.tdiv 2 = hc := by rw [Int.tdiv_eq_ediv_of_nonneg hcb.1]; exact hhc
      have hwc : IntKind.i64.wrap hc = hc := by rw [IntKind.wrap_i64]; omega
      have HBX := Aside0.mk hbx
      have HST := Aside0.mk hst
      clear hst hti hci hds hbx hcb hhc
      go_upto_region 7 with fail
      have hal : Below wr.heap.size wr (wr.alloc (.cells #[.string ti, .int .i64 hc] 37)) := below_alloc (Below.refl _ _) _
      have HW1 : Aside0 ((wr.alloc (.cells #[.string ti, .int .i64 hc] 37)).ownsRow w0.heap.size 37 2 (.slice A1 r c1) r (ents (halL (L.take i))) ∧ Below w0.heap.size w0 (wr.alloc (.cells #[.string ti, .int .i64 hc] 37)) ∧ w0.heap.size ≤ wr.heap.size + 1) := ⟨pw_own_below HW.out.1 hal, below_step HW.out.2 hal, by have := HW.out.2.size; omega⟩
      clear hal k1 a0 a1 HBX
      by_cases h0 : 0 < hc
      · have HE : Aside0 (halL (L.take (i + 1)) = halL (L.take i) ++ [⟨ti, hc⟩]) := ⟨by rw [HST.out, if_pos h0]⟩
        go_wp2_with ((with_reducible refine gate_dst (N := 33) rfl ?_); refine app_cells (w0 := _) w0.heap.size rfl (.tmp 30) (.tmp 32) 38 37 (.agg #[.string ByteArray.empty, .int .i64 0]) 2 24 (wr.heap.size + 1) rfl Try.underlying38 infoR rfl (by decide) (by decide) (.slice A1 r c1) r (ents (halL (L.take i))) [.string ti, .int .i64 hc] rfl rfl (by simp) rfl (by simp [Value.oneCell']) HW1.out.1 (Below.refl _ _) HW1.out.2.2 (by have := HI.out; omega) ?_; intro v1 w5 hown hbel hgrow hat; obtain ⟨g2, c3, rfl, hg1b⟩ := own_someR hown; have HW5 := Aside0.mk (And.intro hown hbel); clear hown hbel hgrow hat hg1b)
        have HF : Aside0 (w5.ownsRow w0.heap.size 37 2 (.slice (some ⟨g2, 0, none⟩) (r + 1) c3) (r + 1) (ents (halL (L.take (i + 1)))) ∧ Below w0.heap.size w0 w5) := ⟨by rw [HE.out, ← ents_snoc]; exact HW5.out.1, HW1.out.2.1.trans HW5.out.2⟩
        clear HW5 HW1 HW
        go_wp2
        go_roundg (gk - 1)
        case measure => have := HI.out; omega
        case rel => exact ⟨i + 1, r + 1, _, c3, ⟨by have := HI.out; omega, by rw [HE.out, List.length_append, ← HI.out.2.1]; rfl, by have := HI.out; omega⟩, by go_num, rfl, HF⟩
      · have HE : Aside0 (halL (L.take (i + 1)) = halL (L.take i)) := ⟨by rw [HST.out, if_neg h0]⟩
        clear HW
        go_wp2
        go_roundg (gk - 1)
        case measure => have := HI.out; omega
        case rel => exact ⟨i + 1, r, A1, c1, ⟨by have := HI.out; omega, by rw [HE.out]; exact HI.out.2.1, by have := HI.out; omega⟩, by go_num, rfl, ⟨by rw [HE.out]; exact ⟨HW1.out.1, HW1.out.2.1⟩⟩⟩
    · have him : i = m := by have := HI.out; omega
      subst him
      have htk : L.take i = L := List.take_of_length_le (Nat.le_of_eq H.out.2.1)
      rw [htk] at HI HW
      have hii : ¬ (i : Int) < i := by omega
      have hwg : IntKind.i64.wrap ((i : Int) - r) = (i : Int) - r := by have := HI.out; rw [IntKind.wrap_i64]; omega
      have f1 := blk_frozen hbx 1
      have HBX := Aside0.mk hbx
      clear hlt htk hds hbx
      go_wp2
      go_ret
      have hne : some b ≠ (Value.slice A1 r c1).ownBlock := own_ne HW.out.1 HBX.out (by decide)
      refine ⟨.slice A1 r c1, by rw [← HI.out.2.1, H.out.2.1]; rfl, ⟨blk_put HBX.out 1 _ rfl, ?_, hne, H.out.1.lo⟩, (Ch.of_below HW.out.2).set rfl, fun q e => own_base HW.out.1 q e⟩
      rw [← HI.out.2.1]
      have ho := own_setCell (p := ⟨b, 1, none⟩) HW.out.1 hne (.slice A1 r c1)
      obtain ⟨o1, o2 | ⟨g, cap, cur, e1, hb, rest⟩⟩ := ho
      · exact ⟨o1, .inl o2⟩
      · exact ⟨o1, .inr ⟨g, cap, cur, e1, Nat.le_trans H.out.2.2.1 hb, rest⟩⟩
end
end Go.Proofs.Ytfijbhacobjjgah
