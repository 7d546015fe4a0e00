/- SchedRuns: what holds between the deeds. -/
import Derived.Test.YtfijbhacobjjgagDeedsOpen
namespace Go.Proofs.Ytfijbhacobjjgag
open Go.RowKit Go.Proofs.YtfijbhacobjjgagW.PrintWords Go.Proofs.YtfijbhacobjjgagW.PrintLast Go.Proofs.YtfijbhacobjjgagW.PrintMore Go.Proofs.Ytfijbhacobjjgag.Fr
set_option linter.unusedVariables false
set_option linter.unusedSimpArgs false
attribute [local go_sem] max2_int min2_int max_two min_two

open Pl Hp
structure MK (k : Nat) (now ord : Int) (D : List E) : Prop where
  len : D.length ≤ k
  n0 : 0 ≤ now
  n1 : now ≤ 1099511627776
  o0 : 0 ≤ ord
  o1 : ord ≤ k
  ts : ∀ x ∈ D, x.t ≤ 1099511627776
section
variable {k : Nat} {now ord : Int} {D : List E}
theorem MK.start : MK 0 0 0 [] := ⟨by simp, by decide, by decide, by decide, by decide, fun x hx => by cases hx⟩
theorem MK.more (h : MK k now ord D) : MK (k + 1) now ord D := ⟨by have := h.len; omega, h.n0, h.n1, h.o0, by have := h.o1; omega, h.ts⟩
theorem MK.put (h : MK k now ord D) (after : Int) (a : Ac) : MK (k + 1) now (ord + 1) (ins D ⟨putT now after, ord + 1, a⟩) := by
  refine ⟨by rw [ins_len]; have := h.len; omega, h.n0, h.n1, by have := h.o0; omega, by have := h.o1; omega, fun x hx => ?_⟩
  rcases List.mem_cons.1 ((ins_perm D _).mem_iff.1 hx) with rfl | hx
  · show putT now after ≤ _
    unfold putT; omega
  · exact h.ts x hx
theorem MK.next {y : E} {r : List E} (h : MK k now ord (y :: r)) : MK (k + 1) (max now y.t) ord r := by
  have hy := h.ts y (List.mem_cons_self ..)
  exact ⟨by have := h.len; simp at this; omega, by have := h.n0; omega, by have := h.n1; omega, h.o0, by have := h.o1; omega, fun x hx => h.ts x (List.mem_cons_of_mem _ hx)⟩
theorem MK.until (h : MK k now ord D) (tm : Int) : MK (k + 1) (max now (min tm 1099511627776)) ord (D.dropWhile (due tm)) :=
  ⟨by have := h.len; have := (List.dropWhile_sublist (l := D) (due tm)).length_le; omega, by have := h.n0; omega, by have := h.n1; omega, h.o0, by have := h.o1; omega, fun x hx => h.ts x ((List.dropWhile_sublist _).subset hx)⟩
theorem MK.drop (h : MK k now ord D) (n : Int) : MK (k + 1) now ord (dropE n D) :=
  ⟨by have := h.len; have := dropE_len n D; omega, h.n0, h.n1, h.o0, by have := h.o1; omega, fun x hx => h.ts x (List.mem_filter.1 hx).1⟩
end
section
variable {B s b : Nat} {w : World} {now ord : Int} {D : List E} {F : Nat → Prop} {gn n tm : Int} {la : List Ac}
theorem drop_gx (hg : (D.length : Int) - (dropE n D).length = gn) (h : XD B s now ord D F w) (hB : B ≤ w.heap.size) (hl : D.length ≤ 1000) :
    Calls Try.prog 17 #[.pointer (some ⟨s, 0, none⟩), .int .i64 n] w fun e w' => e = .returned (.int .i64 gn) ∧ Turned (XD B s now ord (dropE n D)) F w w' := by
  rw [← hg]; exact drop_x n h hB hl
theorem drop_gy (hg : (D.length : Int) - (dropE n D).length = gn) (h : YD B b now D F w) (hB : B ≤ w.heap.size) (hl : D.length ≤ 1000) :
    Calls Try.prog 18 #[.pointer (some ⟨b, 0, none⟩), .int .i64 n] w fun e w' => e = .returned (.int .i64 gn) ∧ Turned (YD B b now (dropE n D)) F w w' := by
  rw [← hg]; exact drop_y n h hB hl
theorem until_gx (hla : (D.takeWhile (due tm)).map (·.a) = la) (h : XD B s now ord D F w) (hB : B ≤ w.heap.size) (hl : D.length ≤ 1000) (ht : ∀ x ∈ D, x.t ≤ 1099511627776) :
    Calls Try.prog 15 #[.pointer (some ⟨s, 0, none⟩), .int .i64 tm] w fun e w' => (∃ p c, e = .returned (.slice (ap p) la.length c) ∧ RdC w' p (acs la) ∧ ∀ q, p = some q → w.heap.size ≤ q.1) ∧ Turned (XD B s (max now (min tm 1099511627776)) ord (D.dropWhile (due tm))) F w w' := by
  have hl2 : (D.takeWhile (due tm)).length = la.length := by rw [← hla, List.length_map]
  rw [← hl2, ← hla]; exact until_x tm h hB hl ht
theorem until_gy (hla : (D.takeWhile (due tm)).map (·.a) = la) (h : YD B b now D F w) (hB : B ≤ w.heap.size) (hl : D.length ≤ 1000) (ht : ∀ x ∈ D, x.t ≤ 1099511627776) (hn0 : 0 ≤ now) :
    Calls Try.prog 16 #[.pointer (some ⟨b, 0, none⟩), .int .i64 tm] w fun e w' => (∃ p c, e = .returned (.slice (ap p) la.length c) ∧ RdC w' p (acs la) ∧ ∀ q, p = some q → w.heap.size ≤ q.1) ∧ Turned (YD B b (max now (min tm 1099511627776)) (D.dropWhile (due tm))) F w w' := by
  have hl2 : (D.takeWhile (due tm)).length = la.length := by rw [← hla, List.length_map]
  rw [← hl2, ← hla]; exact until_y tm h hB hl ht hn0
theorem yd_now (h : YD B b now D F w) : w.cell? ⟨b, 0, none⟩ = some (.int .i64 now) := by
  obtain ⟨pa, pt, ca, ct, h, _⟩ := h
  exact (blk_cell h.box 0).trans rfl
theorem DS.first {pa : Option (Nat × Nat)} {gt ot ca ct : Nat} {y : E} {r : List E} (h : DS B w b pa (some (gt, ot)) ca ct now (y :: r)) : w.cell? ⟨gt, ot, none⟩ = some (.int .i64 y.t) := by
  obtain ⟨g, o, e, ht⟩ := h.rt.tm 0 (by simp)
  cases e
  exact ht
theorem len_gx {m : Nat} (hm : D.length = m) (h : XD B s now ord D F w) : Calls Try.prog 11 #[.pointer (some ⟨s, 0, none⟩)] w fun e w' => e = .returned (.int .i64 m) ∧ w = w' := by
  rw [← hm]; exact len_x h
end
end Go.Proofs.Ytfijbhacobjjgag
