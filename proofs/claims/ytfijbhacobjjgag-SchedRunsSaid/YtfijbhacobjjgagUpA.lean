/- What is put in goes up. -/
import Derived.Test.YtfijbhacobjjgagSwapA
namespace Go.Proofs.Ytfijbhacobjjgag
open Go.RowKit Go.Proofs.YtfijbhacobjjgagW.PrintWords Go.Proofs.YtfijbhacobjjgagW.PrintLast Go.Proofs.YtfijbhacobjjgagW.PrintMore Go.Proofs.Ytfijbhacobjjgag.Fr
set_option linter.unusedVariables false
set_option linter.unusedSimpArgs false
attribute [local go_sem] max2_int min2_int max_two min_two

open Pl Hp
/-- A heap: its slice in cell s, its row in block g. -/
structure HH (B : Nat) (w : World) (s g c : Nat) (l : List E) : Prop where
  cell : w.cell? ⟨s, 0, none⟩ = some (.slice (some ⟨g, 0, none⟩) l.length c)
  row : HR B w g c l
  ne : s ≠ g
  lt : s < w.heap.size
theorem HH.ch {B s g c : Nat} {w w1 : World} {l l1 : List E} (h : HH B w s g c l) (hc : Ch (fun k => k = g) w w1) (hl : l1.length = l.length) (hr : HR B w1 g c l1) : HH B w1 s g c l1 :=
  ⟨by rw [hl]; exact (World.cell?_of_block (w := w) (hc.block s h.lt h.ne)).trans h.cell, hr, h.ne, Nat.lt_of_lt_of_le h.lt hc.size⟩
theorem nilchk {P : Program} (t : TypeId) (a : Addr) (x y : String) (w : World) : (Builtin.ssaWrapNilChk_ #[t] t #[.pointer (some a), strVal x, strVal y]).run P w = .ok (.pointer (some a)) w := by
  rfl
theorem method_val {P : Program} {t e : TypeId} {nm : String} {f : FuncId} {n : Nat} (s : Nat) (v : Value) (w : World) (hm : (P.info? t).bind (fun i => (i.methods.find? (·.name == nm)).map (fun m => (m.path, m.func))) = some (#[], some (f, false)))
    (hu : P.underlying t = some (.pointer e)) (hl : (loadVar e ⟨s, 0, none⟩).run P w = .ok v w) : (method (n + 1) t (.pointer (some ⟨s, 0, none⟩)) nm).run P w = .ok (f, v) w := by
  obtain ⟨i, hi, hx⟩ := Option.bind_eq_some_iff.1 hm
  obtain ⟨m, hf, hp⟩ := Option.map_eq_some_iff.1 hx
  simp only [Prod.mk.injEq] at hp
  obtain ⟨hp1, hp2⟩ := hp
  unfold method
  simp [typeInfo, hi, hf, hp1, hp2, follow, receiverAt, run_underlying hu, Place.get, nilchk, asAddr, hl, Result.andThen]
theorem met_len (s : Nat) (v : Value) (w : World) (h : w.cell? ⟨s, 0, none⟩ = some v) : (method 187 54 (.pointer (some ⟨s, 0, none⟩)) "Len").run Try.prog w = .ok (45, v) w :=
  method_val s v w (by kernel_rfl) Try.underlying54 (by go_simp)
theorem met_less (s : Nat) (v : Value) (w : World) (h : w.cell? ⟨s, 0, none⟩ = some v) : (method 187 54 (.pointer (some ⟨s, 0, none⟩)) "Less").run Try.prog w = .ok (46, v) w :=
  method_val s v w (by kernel_rfl) Try.underlying54 (by go_simp)
theorem met_swap (s : Nat) (v : Value) (w : World) (h : w.cell? ⟨s, 0, none⟩ = some v) : (method 187 54 (.pointer (some ⟨s, 0, none⟩)) "Swap").run Try.prog w = .ok (47, v) w :=
  method_val s v w (by kernel_rfl) Try.underlying54 (by go_simp)
theorem met_push (s : Nat) (w : World) : (method 187 54 (.pointer (some ⟨s, 0, none⟩)) "Push").run Try.prog w = .ok (52, .pointer (some ⟨s, 0, none⟩)) w := by kernel_rfl
theorem met_pop (s : Nat) (w : World) : (method 187 54 (.pointer (some ⟨s, 0, none⟩)) "Pop").run Try.prog w = .ok (51, .pointer (some ⟨s, 0, none⟩)) w := by kernel_rfl
abbrev PI (s : Nat) : Value := .iface 54 (.pointer (some ⟨s, 0, none⟩))
theorem up_any (B s g c : Nat) (n : Nat) (w0 : World) (l0 : List E) (j0 : Nat) (h : HH B w0 s g c l0) (hn : l0.length = n) (hj : j0 < n) (hn2 : n ≤ 100000) :
    Calls Try.prog 27 #[PI s, .int .i64 j0] w0 fun e w' => e = .returned (.tuple #[]) ∧ HH B w' s g c (up elt ez l0 j0) ∧ Ch (fun k => k = g) w0 w' := by
  have H := Aside0.mk h
  go_enter Try.func27, Try.ntmps27
  go_wp2_with fail
  go_loopg [1] j0 (fun d x1 wr => ∃ (l : List E), x1 = .int .i64 d ∧ Aside0 (d < n ∧ l.length = n ∧ up elt ez l d = up elt ez l0 j0) ∧ Aside0 (HH B wr s g c l) ∧ Aside0 (Ch (fun k => k = g) w0 wr))
  case atStart => exact ⟨l0, rfl, ⟨hj, hn, rfl⟩, H, ⟨Ch.refl _ _⟩⟩
  case round =>
    obtain ⟨l, rfl, HI, HW, HC⟩ := hrel
    by_cases h0 : gk = 0
    · subst h0
      go_wp2
      go_end0
      rw [← HI.out.2.2, up_zero]
      exact ⟨rfl, HW.out, HC.out⟩
    · have hdiv : ((gk : Int) - 1).tdiv 2 = (((gk - 1) / 2 : Nat) : Int) := by
        rw [Int.tdiv_eq_ediv_of_nonneg (by omega)]; omega
      obtain ⟨p, hp⟩ : ∃ p, (gk - 1) / 2 = p := ⟨_, rfl⟩
      rw [hp] at hdiv
      have hpj : p < gk := by omega
      have hq : ((p : Int) == gk) = false := beq_eq_false_iff_ne.2 (by omega)
      have hg1 : (1 : Int) ≤ gk := by omega
      have hg2 : (gk : Int) ≤ 100000 := by have := HI.out; omega
      have hwd : IntKind.i64.wrap ((gk : Int) - 1) = (gk : Int) - 1 := by rw [IntKind.wrap_i64]; omega
      have hm1 := met_less s _ wr HW.out.cell
      have hm2 := fun w h => met_swap s (.slice (some ⟨g, 0, none⟩) l.length c) w h
      have hjl : gk < l.length := by have := HI.out; omega
      have hpl : p < l.length := by omega
      have HP := Aside0.mk hp
      clear hp
      go_wp2_with fail
      have hcj := HW.out.row.cells gk hjl
      have hcp := HW.out.row.cells p hpl
      refine (less_any g l.length c gk p _ _ _ _ wr hjl hpl (by have := HI.out; omega) (by obtain ⟨_, _, _, q, _⟩ := HW.out.row.block; exact q) ⟨hcj.1, hcj.2.1, hcp.1, hcp.2.1⟩).mono ?_
      rintro e w1 ⟨rfl, hb⟩
      have HW1 : Aside0 (HH B w1 s g c l) := ⟨HW.out.ch (Ch.of_below hb) rfl (HW.out.row.below hb)⟩
      have HC1 : Aside0 (Ch (fun k => k = g) w0 w1) := ⟨HC.out.trans (Ch.of_below hb)⟩
      have hm3 := hm2 w1 HW1.out.cell
      clear hcj hcp hb hm1 hm2 HW HC
      have hel : lessB (l.getD gk ez).t (l.getD gk ez).o (l.getD p ez).t (l.getD p ez).o = elt (l.getD gk ez) (l.getD p ez) := rfl
      rw [hel]
      clear hel
      cases hl : elt (l.getD gk ez) (l.getD p ez)
      · have HE : Aside0 (up elt ez l gk = l) := ⟨up_end elt ez (by rw [HP.out]; exact hl)⟩
        clear hl
        go_wp2
        go_end0
        rw [← HI.out.2.2, HE.out]
        exact ⟨rfl, HW1.out, HC1.out⟩
      · have HE : Aside0 (up elt ez l gk = up elt ez (swp ez l p gk) p) := ⟨by rw [up_go elt ez (by omega) (by rw [HP.out]; exact hl), HP.out]⟩
        clear hl
        go_wp2_with fail
        refine (swap_any B g c p gk l w1 HW1.out.row hpl hjl (by have := HI.out; omega)).mono ?_
        rintro e w2 ⟨rfl, hr, hc⟩
        have HW2 : Aside0 (HH B w2 s g c (swp ez l p gk)) := ⟨HW1.out.ch hc (swp_len ez l p gk) hr⟩
        have HC2 : Aside0 (Ch (fun k => k = g) w0 w2) := ⟨HC1.out.trans hc⟩
        clear hr hc hm3 HW1 HC1
        go_wp2
        go_roundg p
        case measure => exact hpj
        case rel => exact ⟨swp ez l p gk, rfl, ⟨by have := HI.out; omega, by rw [swp_len]; exact HI.out.2.1, by rw [← HE.out]; exact HI.out.2.2⟩, HW2, HC2⟩
end Go.Proofs.Ytfijbhacobjjgag
