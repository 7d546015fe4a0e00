/- The contracts of a range, and of its halves. -/
import Derived.Test.YtfijbhacobjjgafProg
import Derived.Test.YtfijbhacobjjgafVals
import Derived.Test.YtfijbhacobjjgafWLast
import Derived.Test.YtfijbhacobjjgafWMore
import Derived.RegionTactic
import Derived.ChangeAlike
import Derived.BigRegion
import Derived.WalkLawsBesides
import Derived.WalkSpells
import Derived.Deep.LoopGhost
import Derived.Deep.QuietTactic
import Derived.BigQuiet
import Derived.OwnWalk
import Derived.Test.YtfijbhacobjjgafRootA
import Derived.Test.YtfijbhacobjjgafLaw48
namespace Go.Proofs.Ytfijbhacobjjgaf
open Go.RowKit Go.Proofs.YtfijbhacobjjgafW.PrintWords Go.Proofs.YtfijbhacobjjgafW.PrintLast Go.Proofs.YtfijbhacobjjgafW.PrintMore Go.Proofs.Ytfijbhacobjjgaf.Fr
set_option linter.unusedVariables false
set_option linter.unusedSimpArgs false
attribute [local go_sem] max2_int min2_int max_two min_two

open Pl
theorem brought_any (A : Option Addr) (n c : Nat) (hn : n ≤ 2000) (hc : n ≤ c) (w : World) : Calls Try.prog 18 #[.slice A n c] w fun e w' => e = .returned (.slice A n c) ∧ w' = w := by
  have h1 : ¬ (2000 : Int) < (n : Int) := by omega
  have h2 : (n : Int) ≤ 2000 := by omega
  have h3 : (n : Int) ≤ (c : Int) := by omega
  go_enter Try.func18, Try.ntmps18
  go_wp2
  go_ret
  exact ⟨rfl, rfl⟩
theorem infoS : (Try.prog.info? 9).map (fun i => i.size) = some 1 := by kernel_rfl
theorem rds_sub {w : World} {A : Option Addr} {l : List ByteArray} {c f t : Nat} (h : RdS w A l) (ht : t ≤ l.length) (hc : l.length ≤ c) : RdS w (if c = f then A else A.map (·.add f)) (sub l f (t - f)) := by
  by_cases e : c = f
  · intro i hi
    unfold Pl.sub at hi
    rw [List.length_take, List.length_drop] at hi
    omega
  · rw [if_neg e]
    exact (h.drop f).take (t - f)
theorem cut_str (A : Option Addr) (n c f t : Nat) (hft : f ≤ t) (htn : t ≤ n) (hnc : n ≤ c) : ∃ A', (∀ W : World, (Instr.slice 22 (.slice A n c) (some (.int .i64 (f : Int))) (some (.int .i64 (t : Int))) none).run Try.prog W = .ok (.slice A' (t - f) (c - f)) W) ∧ ∀ (w : World) (l : List ByteArray), l.length = n → RdS w A l → RdS w A' (sub l f (t - f)) := by
  obtain ⟨i, hi, hz⟩ := Option.map_eq_some_iff.1 infoS
  refine ⟨if c = f then A else A.map (·.add f), fun W => ?_, fun w l hl h => rds_sub h (by omega) (by omega)⟩
  have hel : Try.prog.elem 22 = 9 := by simp [Program.elem, Try.underlying22]
  have hu : Try.prog.underlying 22 = some (.slice (Try.prog.elem 22)) := by rw [hel]; exact Try.underlying22
  rw [run_slice_lh W 22 A n c hu .i64 .i64 (f : Int) (t : Int) (by omega) (by omega) (by omega), hel]
  simp [sizeOf, typeInfo, hi, hz, sliced, Result.andThen]
/-- A list that is handed in. -/
structure LS (w : World) (A : Option Addr) (n c : Nat) (l : List ByteArray) : Prop where
  len : l.length = n
  le : n ≤ 60
  cap : n ≤ c
  top : c ≤ 9223372036854775807
  rd : RdS w A l
  sz : ∀ s ∈ l, s.size ≤ 140737488351232
theorem LS.below {w w1 : World} {A : Option Addr} {n c : Nat} {l : List ByteArray} (h : LS w A n c l) (hb : Below w.heap.size w w1) : LS w1 A n c l := ⟨h.len, h.le, h.cap, h.top, h.rd.below hb, h.sz⟩
theorem LS.roots {w : World} {A : Option Addr} {n c : Nat} {l : List ByteArray} (h : LS w A n c l) (f t : Nat) (hft : f ≤ t) (htn : t ≤ n) : ∃ A', (∀ W : World, (Instr.slice 22 (.slice A n c) (some (.int .i64 (f : Int))) (some (.int .i64 (t : Int))) none).run Try.prog W = .ok (.slice A' (t - f) (c - f)) W) ∧ (∀ w1 : World, Below w.heap.size w w1 → Calls Try.prog 20 #[.slice A' (t - f) (c - f)] w1 fun e w' => e = .returned (.int .u64 (root lf pr (sub l f (t - f)))) ∧ Below w1.heap.size w1 w') ∧ (∀ w1 : World, Below w.heap.size w w1 → Calls Try.prog 13 #[.slice A' (t - f) (c - f)] w1 fun e w' => e = .returned (.int .u64 (root lf pr (sub l f (t - f)))) ∧ Below w1.heap.size w1 w') := by
  obtain ⟨A', h1, h2⟩ := cut_str A n c f t hft htn h.cap
  have hh := h
  obtain ⟨l1, l2, l3, l4, l5, l6⟩ := hh
  refine ⟨A', h1, fun w1 hb => ?_, fun w1 hb => ?_⟩
  · exact root_any (t - f) (sub l f (t - f)) A' (c - f) w1 (sub_len (by omega)) (by omega) (by omega) (by omega) (h2 w1 l l1 (l5.below hb)) (fun s hs => Nat.le_trans (l6 s (sub_mem hs)) (by decide))
  · exact refRoot_any (t - f) (sub l f (t - f)) A' (c - f) w1 (sub_len (by omega)) (by omega) (by omega) (by omega) (h2 w1 l l1 (l5.below hb)) (fun s hs => Nat.le_trans (l6 s (sub_mem hs)) (by decide))
def rv (l : List ByteArray) (f t : Nat) : Value := .agg #[.int .i64 (f : Int), .int .i64 (t : Int), .int .u64 (root lf pr (sub l f (t - f)))]
def rz : Value := .agg #[.int .i64 0, .int .i64 0, .int .u64 0]
set_option maxRecDepth 100000 in
theorem of_in (l : List ByteArray) (A : Option Addr) (n c f t : Nat) (hft : f ≤ t) (htn : t ≤ n) (w : World) (hL : LS w A n c l) : Calls Try.prog 12 #[.slice A n c, .int .i64 (f : Int), .int .i64 (t : Int)] w fun e w' => e = .returned (.tuple #[rv l f t, .bool true]) ∧ Below w.heap.size w w' := by
  obtain ⟨A', hcut, hrt, _⟩ := hL.roots f t hft htn
  have HBR : Aside0 (∀ w : World, Calls Try.prog 18 #[.slice A n c] w fun e w' => e = .returned (.slice A n c) ∧ w' = w) := ⟨fun w => brought_any A n c (by have := hL.le; omega) hL.cap w⟩
  unfold rv
  obtain ⟨r, hr⟩ : ∃ r, root lf pr (sub l f (t - f)) = r := ⟨_, rfl⟩
  rw [hr] at hrt ⊢
  have HRT := Aside0.mk hrt
  have h0 : ¬ (f : Int) < 0 := by omega
  have h1 : ¬ (t : Int) < (f : Int) := by omega
  have h2 : ¬ (n : Int) < (t : Int) := by omega
  clear hrt hr
  go_enter Try.func12, Try.ntmps12
  go_wp2_with fail
  refine (HBR.out _).mono ?_
  rintro e w1 ⟨rfl, rfl⟩
  go_wp2_with fail
  refine (HRT.out _ (below_alloc (Below.refl _ _) _)).mono ?_
  rintro e w2 ⟨rfl, hb2⟩
  have hbx := blk_below (blk_new w (.cells #[.int .i64 0, .int .i64 0, .int .u64 0] 37)) hb2
  have HBX := Aside0.mk hbx
  have f1 := blk_frozen hbx
  have c0 : w2.cell? ⟨w.heap.size, 0, none⟩ = some (.int .i64 0) := (blk_cell hbx 0).trans rfl
  have c1 : w2.cell? ⟨w.heap.size, 1, none⟩ = some (.int .i64 0) := (blk_cell hbx 1).trans rfl
  have c2 : w2.cell? ⟨w.heap.size, 2, none⟩ = some (.int .u64 0) := (blk_cell hbx 2).trans rfl
  have HB2 : Aside0 (Below w.heap.size w w2) := ⟨below_then (below_alloc (Below.refl _ _) _) (by simp) hb2⟩
  clear hbx hb2
  go_wp2
  have hfin := blk_put (blk_put (blk_put HBX.out 0 (.int .i64 (f : Int)) rfl) 1 (.int .i64 (t : Int)) rfl) 2 (.int .u64 r) rfl
  have hbf := ((HB2.out.setCell (p := ⟨w.heap.size, 0, none⟩) (Nat.le_refl _) (.int .i64 (f : Int))).setCell (p := ⟨w.heap.size, 1, none⟩) (Nat.le_refl _) (.int .i64 (t : Int))).setCell (p := ⟨w.heap.size, 2, none⟩) (Nat.le_refl _) (.int .u64 r)
  generalize ((w2.setCell ⟨w.heap.size, 0, none⟩ (.int .i64 (f : Int))).setCell ⟨w.heap.size, 1, none⟩ (.int .i64 (t : Int))).setCell ⟨w.heap.size, 2, none⟩ (.int .u64 r) = V at hfin hbf ⊢
  have k0 : V.cell? ⟨w.heap.size, 0, none⟩ = some (.int .i64 (f : Int)) := (blk_cell hfin 0).trans rfl
  have k1 : V.cell? ⟨w.heap.size, 1, none⟩ = some (.int .i64 (t : Int)) := (blk_cell hfin 1).trans rfl
  have k2 : V.cell? ⟨w.heap.size, 2, none⟩ = some (.int .u64 r) := (blk_cell hfin 2).trans rfl
  exact bodyPost_ret (v := .tuple #[.agg #[.int .i64 (f : Int), .int .i64 (t : Int), .int .u64 r], .bool true]) (by simp [results, Try.results12, go_sem, k0, k1, k2]) rfl ⟨rfl, hbf⟩
set_option maxRecDepth 100000 in
theorem of_out (A : Option Addr) (n c : Nat) (f t : Int) (hn : n ≤ 60) (hc : n ≤ c) (h : f < 0 ∨ t < f ∨ (n : Int) < t) (w : World) : Calls Try.prog 12 #[.slice A n c, .int .i64 f, .int .i64 t] w fun e w' => e = .returned (.tuple #[rz, .bool false]) ∧ Below w.heap.size w w' := by
  have HBR : Aside0 (∀ w : World, Calls Try.prog 18 #[.slice A n c] w fun e w' => e = .returned (.slice A n c) ∧ w' = w) := ⟨fun w => brought_any A n c (by omega) hc w⟩
  have hd : (f < 0) ∨ (¬ f < 0 ∧ t < f) ∨ (¬ f < 0 ∧ ¬ t < f ∧ (n : Int) < t) := by omega
  unfold rz
  clear h
  rcases hd with h0 | ⟨h0, h1⟩ | ⟨h0, h1, h2⟩
  all_goals
    go_enter Try.func12, Try.ntmps12
    go_wp2_with fail
    refine (HBR.out _).mono ?_
    rintro e w1 ⟨rfl, rfl⟩
    go_wp2
    exact bodyPost_ret (v := .tuple #[.agg #[.int .i64 0, .int .i64 0, .int .u64 0], .bool false]) (by simp [results, Try.results12, go_sem]) rfl ⟨rfl, below_alloc (Below.refl _ _) _⟩
end Go.Proofs.Ytfijbhacobjjgaf
