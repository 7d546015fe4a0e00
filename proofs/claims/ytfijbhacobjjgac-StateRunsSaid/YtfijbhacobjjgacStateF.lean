/- A state: the last epoch. -/
import Derived.Test.YtfijbhacobjjgacStateE
namespace Go.Proofs.Ytfijbhacobjjgac
open Go.RowKit Go.Proofs.YtfijbhacobjjgacW.PrintWords Go.Proofs.YtfijbhacobjjgacW.PrintLast Go.Proofs.YtfijbhacobjjgacW.PrintMore Go.Proofs.Ytfijbhacobjjgac.Fr
set_option linter.unusedVariables false
set_option linter.unusedSimpArgs false
attribute [local go_sem] max2_int min2_int max_two min_two

open Go.Maps
section
variable {B : Nat} {g : Nat} {rv dv : Value} {md n : Nat} {rs ds : List ByteArray} {D : DW}
/-- The greatest of the epochs, if one is above 0. -/
def IsLast (D : DW) (m : Int) : Prop := 0 ≤ m ∧ (∀ x, Maps.has D (.int .i64 x) = true → x ≤ m) ∧ (m = 0 ∨ Maps.has D (.int .i64 m) = true)
theorem step_le {left : Lit → Bool} {m m' x : Int} (h : ∀ y, Maps.has D (.int .i64 y) = true → left (.int .i64 y) = false → y ≤ m) (hm : m ≤ m') (hx : x ≤ m') (y : Int) (h1 : Maps.has D (.int .i64 y) = true) (h2 : (left (.int .i64 y) && !(Lit.int .i64 y).sameKey (.int .i64 x)) = false) : y ≤ m' := by
  cases hl : left (.int .i64 y)
  · exact Int.le_trans (h y h1 hl) hm
  · rw [hl] at h2
    have h3 : (Lit.int .i64 y).sameKey (.int .i64 x) = true := by simpa using h2
    have h4 := WideAt.sameKey_eq h3
    cases h4
    exact hx
theorem last_any (w : World) (h : ST B w g rv dv md n rs ds D) : Calls Try.prog 14 #[.pointer (some ⟨g, 0, none⟩)] w fun e w' => (∃ m, e = .returned (.int .i64 m) ∧ IsLast D m) ∧ Below w.heap.size w w' := by
  have c2 : w.cell? ⟨g, 2, none⟩ = some (.map (some md)) := (blk_cell h.box 2).trans rfl
  have HM := Aside0.mk h.map
  clear h
  go_enter Try.func14, Try.ntmps14
  go_wp2_with (at_range; refine wpList_range_own _ rfl _ 45 rfl 3 9 law3 Try.underlying45 _ md n D rfl HM.out ?_; intro w1 hrg hg0 hs0; have HR := Aside0.mk (And.intro hrg (And.intro hg0 hs0)); clear hrg hg0 hs0)
  go_frame
  go_loopg [3] (Maps.size D) (fun d x wr => ∃ (left : Lit → Bool) (m : Int), x = .int .i64 m ∧ Aside0 (wr.ranges Try.prog 3 EL md w.heap.size n D left d) ∧ Aside0 (0 ≤ m ∧ (∀ x, Maps.has D (.int .i64 x) = true → left (.int .i64 x) = false → x ≤ m) ∧ (m = 0 ∨ Maps.has D (.int .i64 m) = true)) ∧ Aside0 (Below w.heap.size w wr))
  case atStart => exact ⟨_, 0, rfl, ⟨HR.out.1⟩, ⟨Int.le_refl _, (fun x h1 h2 => absurd (h1.symm.trans h2) (by simp)), .inl rfl⟩, ⟨(Below.refl _ w).grown HR.out.2.1 (Nat.le_refl _) (fun k e => by cases e)⟩⟩
  case round =>
    clear HR
    obtain ⟨left, m, rfl, HR, HL, HB⟩ := hrel
    go_wp2_with (at_next; refine wpList_next_ranges_is _ rfl _ rfl 3 9 .i64 law3 Try.underlying3 Try.underlying9 md w.heap.size n D left gk rfl HR.out ?hD ?hM; (case' hD => intro hc0 hl0; have HZ := Aside0.mk hl0; clear hc0 hl0); (case' hM => intro x c w2 cnt1 hwx hwc hlx hat hrg1 hlt hg1 hs1 hen; have HZ := Aside0.mk (And.intro (Maps.has_true_of_atKey hat) (And.intro hrg1 (And.intro hg1 hlt))); clear hwc hlx hat hrg1 hlt hg1 hs1))
    case inl h =>
      go_roundg cnt1
      case measure => exact HZ.out.2.2.2
      case rel => exact ⟨_, x, rfl, ⟨HZ.out.2.1⟩, ⟨⟨by have := HL.out.1; omega, step_le HL.out.2.1 (by omega) (Int.le_refl _), .inr HZ.out.1⟩⟩, ⟨HB.out.grown HZ.out.2.2.1 HB.out.size (fun k e => by cases e; exact Nat.le_refl _)⟩⟩
    case inr h =>
      go_roundg cnt1
      case measure => exact HZ.out.2.2.2
      case rel => exact ⟨_, m, rfl, ⟨HZ.out.2.1⟩, ⟨⟨HL.out.1, step_le HL.out.2.1 (Int.le_refl _) (by omega), HL.out.2.2⟩⟩, ⟨HB.out.grown HZ.out.2.2.1 HB.out.size (fun k e => by cases e; exact Nat.le_refl _)⟩⟩
    go_ret
    exact ⟨⟨m, rfl, HL.out.1, fun x hx => HL.out.2.1 x hx (HZ.out _), HL.out.2.2⟩, HB.out⟩
end
end Go.Proofs.Ytfijbhacobjjgac
