/- DigestRanges: its world; the contracts in one for all ranges. -/
import Derived.Test.YtfijbhacobjjgafWEqStruct
import Derived.Test.YtfijbhacobjjgafProg
import Derived.Test.YtfijbhacobjjgafVals
import Derived.Test.YtfijbhacobjjgafWLast
import Derived.Test.YtfijbhacobjjgafWMore
import Derived.RegionTactic
import Derived.ChangeAlike
import Derived.BigRegion
import Derived.WalkLawsBesides
import Derived.WalkSpells
import Derived.Deep.LoopGhost
import Derived.Deep.QuietTactic
import Derived.BigQuiet
import Derived.OwnWalk
import Derived.Test.YtfijbhacobjjgafUnlikeA
import Derived.Test.YtfijbhacobjjgafFindsWalk
namespace Go.Proofs.Ytfijbhacobjjgaf
open Go.RowKit Go.Proofs.YtfijbhacobjjgafW.PrintWords Go.Proofs.YtfijbhacobjjgafW.PrintLast Go.Proofs.YtfijbhacobjjgafW.PrintMore Go.Proofs.Ytfijbhacobjjgaf.Fr
set_option linter.unusedVariables false
set_option linter.unusedSimpArgs false
attribute [local go_sem] max2_int min2_int max_two min_two

open Pl
theorem eqA37 (d : Nat) (w : World) (x0 y0 : Int) (x1 y1 : Int) (x2 y2 : Int) :
    (Op.equalIn (d + 2) 37 (.agg #[.int .i64 x0, .int .i64 x1, .int .u64 x2]) (.agg #[.int .i64 y0, .int .i64 y1, .int .u64 y2])).run Try.prog w = .ok (x0 == y0 && (x1 == y1 && (x2 == y2))) w := by
  refine eqA_of Try.underlying37 (by kernel_rfl) ?_
  refine eqf_cons (by rfl) (by go_simp; rfl) (by go_simp; rfl) (by go_simp) ?_
  refine eqf_cons (by rfl) (by go_simp; rfl) (by go_simp; rfl) (by go_simp) ?_
  exact eqf_last (by rfl) (by go_simp; rfl) (by go_simp; rfl) (by go_simp)
/-- The law's world: its three numbers. -/
structure RX (a b c : Int) (w0 w : World) : Prop where
  box : w.heap[w0.heap.size]? = some (.cells #[.int .i64 a, .int .i64 b, .int .i64 c] 34 (0, 0))
  bel : Below w0.heap.size w0 w
theorem RX.below {a b c : Int} {w0 w w1 : World} (h : RX a b c w0 w) (hb : Below w.heap.size w w1) : RX a b c w0 w1 := ⟨blk_below h.box hb, below_step h.bel hb⟩
theorem RX.cells {a b c : Int} {w0 w : World} (h : RX a b c w0 w) : w.cell? ⟨w0.heap.size, 0, none⟩ = some (.int .i64 a) ∧ w.cell? ⟨w0.heap.size, 1, none⟩ = some (.int .i64 b) ∧ w.cell? ⟨w0.heap.size, 2, none⟩ = some (.int .i64 c) := ⟨(blk_cell h.box 0).trans rfl, (blk_cell h.box 1).trans rfl, (blk_cell h.box 2).trans rfl⟩
def Facts (a : Act) : List (Nat × Value) → Prop
  | [] => True
  | p :: r => (a.tmps[p.1]? = some p.2 ∧ ∀ h : p.1 < a.tmps.size, a.tmps[p.1]'h = p.2) ∧ Facts a r
theorem obs_op {P : Program} {ops : Array Oper} {a : Act} {T : List St.Tell} {B : Nat → World → Prop} {R : Nat → World → World → Prop} {i : Nat} {os : List Oper} {ds : List (List (Nat × Tmp))} {ts : List St.Tell} (n : Nat) (ks : List (Nat × Value)) (h1 : a.tmps.size = n) (h2 : Facts a ks) (h : ∀ a0 : Act, a0.tmps.size = n → Facts a0 ks → St.obs P ops a0 T B R i os ds ts) : St.obs P ops a T B R i os ds ts := h a h1 h2
def win (a b : Int) (n : Nat) : Bool := decide (0 ≤ a ∧ a ≤ b ∧ b ≤ n)
def two (a b : Int) (n : Nat) : Bool := decide (0 ≤ a ∧ a + 2 ≤ b ∧ b ≤ n)
theorem win_true {a b : Int} {n : Nat} (h : win a b n = true) : ∃ f t : Nat, a = f ∧ b = t ∧ f ≤ t ∧ t ≤ n := by
  obtain ⟨h0, h1, h2⟩ := of_decide_eq_true h
  exact ⟨a.toNat, b.toNat, by omega, by omega, by omega, by omega⟩
theorem win_false {a b : Int} {n : Nat} (h : win a b n = false) : a < 0 ∨ b < a ∨ (n : Int) < b := by
  have := of_decide_eq_false h
  omega
theorem two_true {a b : Int} {n : Nat} (h : two a b n = true) : ∃ f t : Nat, a = f ∧ b = t ∧ f + 2 ≤ t ∧ t ≤ n := by
  obtain ⟨h0, h1, h2⟩ := of_decide_eq_true h
  exact ⟨a.toNat, b.toNat, by omega, by omega, by omega, by omega⟩
theorem two_false {a b : Int} {n : Nat} (h : two a b n = false) : a < 0 ∨ b < a + 2 ∨ (n : Int) < b := by
  have := of_decide_eq_false h
  omega
def OfIs (l : List ByteArray) (a b : Int) (n : Nat) (x y z : Int) : Prop := (∀ f t : Nat, a = f → b = t → f ≤ t → t ≤ n → x = f ∧ y = t ∧ z = root lf pr (sub l f (t - f))) ∧ (win a b n = false → x = 0 ∧ y = 0 ∧ z = 0)
theorem of_gen (l : List ByteArray) (A : Option Addr) (n c : Nat) (a b : Int) (w : World) (hL : LS w A n c l) : Calls Try.prog 12 #[.slice A n c, .int .i64 a, .int .i64 b] w fun e w' => (∃ x y z, e = .returned (.tuple #[.agg #[.int .i64 x, .int .i64 y, .int .u64 z], .bool (win a b n)]) ∧ OfIs l a b n x y z) ∧ Below w.heap.size w w' := by
  cases hw : win a b n
  · refine (of_out A n c a b hL.le hL.cap (win_false hw) w).mono ?_
    rintro e w1 ⟨rfl, hb⟩
    refine ⟨⟨0, 0, 0, rfl, fun f t e1 e2 h1 h2 => ?_, fun _ => ⟨rfl, rfl, rfl⟩⟩, hb⟩
    have := win_false hw
    omega
  · obtain ⟨f, t, rfl, rfl, hft, htn⟩ := win_true hw
    refine (of_in l A n c f t hft htn w hL).mono ?_
    rintro e w1 ⟨rfl, hb⟩
    refine ⟨⟨f, t, _, rfl, fun f' t' e1 e2 h1 h2 => ?_, fun e => by rw [hw] at e; cases e⟩, hb⟩
    obtain rfl : f = f' := by omega
    obtain rfl : t = t' := by omega
    exact ⟨rfl, rfl, rfl⟩
def HvIs (l : List ByteArray) (a b : Int) (n : Nat) (B : Nat) (w : World) (A : Option Addr) (m c : Nat) : Prop :=
  (∀ f t : Nat, a = f → b = t → f + 2 ≤ t → t ≤ n → ∃ g, A = some ⟨g, 0, none⟩ ∧ m = 2 ∧ c = 2 ∧ B ≤ g ∧ w.heap[g]? = some (.cells #[.int .i64 (f : Int), .int .i64 ((f + half (t - f) : Nat) : Int), .int .u64 (root lf pr (sub l f (f + half (t - f) - f))), .int .i64 ((f + half (t - f) : Nat) : Int), .int .i64 (t : Int), .int .u64 (root lf pr (sub l (f + half (t - f)) (t - (f + half (t - f)))))] 37 (0, 0))) ∧ (two a b n = false → m = 0 ∧ c = 0 ∧ A = none)
theorem halves_gen (l : List ByteArray) (A : Option Addr) (n c : Nat) (a b : Int) (w : World) (hL : LS w A n c l) (ha : (Lit.int .i64 a).wf = true) (hb : (Lit.int .i64 b).wf = true) : Calls Try.prog 14 #[.slice A n c, .agg #[.int .i64 a, .int .i64 b, .int .u64 0]] w fun e w' => (∃ A m c, e = .returned (.slice A m c) ∧ HvIs l a b n w.heap.size w' A m c) ∧ Below w.heap.size w w' := by
  cases hw : two a b n
  · refine (halves_out l A n c a b 0 w hL ⟨ha, hb⟩ (two_false hw)).mono ?_
    rintro e w1 ⟨rfl, hb⟩
    refine ⟨⟨none, 0, 0, rfl, fun f t e1 e2 h1 h2 => ?_, fun _ => ⟨rfl, rfl, rfl⟩⟩, hb⟩
    have := two_false hw
    omega
  · obtain ⟨f, t, rfl, rfl, hft, htn⟩ := two_true hw
    refine (halves_in l A n c f t 0 hft htn w hL).mono ?_
    rintro e w1 ⟨g, rfl, hg, hbx, hb⟩
    refine ⟨⟨_, _, _, rfl, fun f' t' e1 e2 h1 h2 => ?_, fun e => by rw [hw] at e; cases e⟩, hb⟩
    obtain rfl : f = f' := by omega
    obtain rfl : t = t' := by omega
    exact ⟨g, rfl, rfl, rfl, hg, hbx⟩
theorem root_gen (l : List ByteArray) (A : Option Addr) (n c f t : Nat) (hft : f ≤ t) (htn : t ≤ n) (hnc : n ≤ c) : ∃ A', (∀ W : World, (Instr.slice 22 (.slice A n c) (some (.int .i64 (f : Int))) (some (.int .i64 (t : Int))) none).run Try.prog W = .ok (.slice A' (t - f) (c - f)) W) ∧ ∀ w : World, LS w A n c l → Calls Try.prog 13 #[.slice A' (t - f) (c - f)] w fun e w' => e = .returned (.int .u64 (root lf pr (sub l f (t - f)))) ∧ Below w.heap.size w w' := by
  obtain ⟨A', h1, h2⟩ := cut_str A n c f t hft htn hnc
  exact ⟨A', h1, fun w h => refRoot_any (t - f) (sub l f (t - f)) A' (c - f) w (sub_len (by have := h.len; omega)) (by have := h.cap; omega) (by have := h.top; omega) (by have := h.le; omega) (h2 w l h.len h.rd) (fun s hs => Nat.le_trans (h.sz s (sub_mem hs)) (by decide))⟩
theorem wf_in {a : Int} (h : (Lit.int .i64 a).wf = true) : -9223372036854775808 ≤ a ∧ a ≤ 9223372036854775807 := by
  simp [Lit.wf] at h
  exact h
theorem cts_step {n wn x f i : Nat} {o : List (Nat × Nat)} (hi : i < o.length) (h : o.drop i = cts n wn f x) : ∃ f', f = f' + 1 ∧ x < n ∧ o.getD i (0, 0) = (x, x + min wn (n - x)) ∧ o.drop (i + 1) = cts n wn f' (x + min wn (n - x)) := by
  rw [List.drop_eq_getElem_cons hi] at h
  cases f with
  | zero => cases h
  | succ f =>
    unfold cts at h
    split at h
    · rename_i hx
      obtain ⟨h1, h2⟩ := List.cons.inj h
      exact ⟨f, rfl, hx, by rw [List.getD_eq_getElem?_getD, List.getElem?_eq_getElem hi]; exact h1, h2⟩
    · cases h
theorem cts_end {n wn x f i : Nat} {o : List (Nat × Nat)} (hi : ¬ i < o.length) (h : o.drop i = cts n wn f x) (hf : n ≤ x + f) : n ≤ x := by
  rw [List.drop_eq_nil_of_le (by omega)] at h
  cases f with
  | zero => omega
  | succ f =>
    unfold cts at h
    split at h
    · cases h
    · omega
end Go.Proofs.Ytfijbhacobjjgaf
