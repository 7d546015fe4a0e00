/- The contracts of the document's coder: its middle, a bit put. -/
import Derived.Test.YtfijbhacobjjgaeProg
import Derived.Test.YtfijbhacobjjgaeVals
import Derived.Test.YtfijbhacobjjgaeWLast
import Derived.Test.YtfijbhacobjjgaeWMore
import Derived.RegionTactic
import Derived.ChangeAlike
import Derived.BigRegion
import Derived.WalkLawsBesides
import Derived.WalkSpells
import Derived.Deep.LoopGhost
import Derived.Deep.QuietTactic
import Derived.BigQuiet
import Derived.OwnWalk
import Derived.Test.YtfijbhacobjjgaeEncA
namespace Go.Proofs.Ytfijbhacobjjgae
open Go.RowKit Go.Proofs.YtfijbhacobjjgaeW.PrintWords Go.Proofs.YtfijbhacobjjgaeW.PrintLast Go.Proofs.YtfijbhacobjjgaeW.PrintMore Go.Proofs.Ytfijbhacobjjgae.Fr
set_option linter.unusedVariables false
set_option linter.unusedSimpArgs false
attribute [local go_sem] max2_int min2_int max_two min_two

open Pl
theorem w64 (x : Int) (h0 : 0 ≤ x) (h1 : x < 18446744073709551616) : IntKind.u64.wrap x = x := by
  simp [IntKind.wrap, IntKind.bits, IntKind.signed]; omega
def CB (w : World) (g : Nat) (l h : Int) (c : List Int) : Prop := Blk w g 41 id (coder l h c)
set_option maxRecDepth 100000 in
theorem refmid_any (g n : Nat) (l h : Int) (c : List Int) (h0 : 0 ≤ l) (h1 : l < h) (h2 : h < 4294967296) (hc : OkC c) (hn : n < 256) (w : World) (hB : CB w g l h c) : Calls Try.prog 23 #[.pointer (some ⟨g, 0, none⟩), .int .i64 n] w fun e w' => e = .returned (.int .u64 (mid l h (c.getD n 0))) ∧ Drawn0 w w' := by
  have hx := hc.2 n hn
  have c0 : w.cell? ⟨g, 0, none⟩ = some (.int .u64 l) := (hB.cell 0 undef (by simp [coder])).trans rfl
  have c1 : w.cell? ⟨g, 1, none⟩ = some (.int .u64 h) := (hB.cell 1 undef (by simp [coder])).trans rfl
  have c2 : w.cell? ⟨g, 2 + n, none⟩ = some (.int .i64 (c.getD n 0)) := by
    have := hB.cell (2 + n) undef (by rw [coder_len, hc.1]; omega)
    rwa [coder_get _ _ _ _ (by rw [hc.1]; exact hn)] at this
  obtain ⟨x, hxe⟩ : ∃ x, c.getD n 0 = x := ⟨_, rfl⟩
  rw [hxe] at hx c2 ⊢
  have hm := mid_in h1 hx.1 hx.2
  have x0 : 0 ≤ x := by omega
  have x1 : x ≤ 4095 := hx.2
  have hq : 0 ≤ (h - l) / 4096 * x ∧ (h - l) / 4096 * x < 4294967296 := by
    have := Int.mul_nonneg (show 0 ≤ (h - l) / 4096 by omega) x0
    unfold mid at hm
    omega
  have q1 : IntKind.u64.wrap (h - l) = h - l := w64 _ (by omega) (by omega)
  have q2 : IntKind.u64.wrap x = x := w64 _ (by omega) (by omega)
  have q3 : IntKind.u64.wrap ((h - l) / 4096 * x) = (h - l) / 4096 * x := w64 _ hq.1 (by omega)
  have q4 : IntKind.u64.wrap (l + (h - l) / 4096 * x) = mid l h x := w64 _ (by omega) (by unfold mid at hm; omega)
  have d0 : (0 : Int) ≤ n := by omega
  have d1 : (n : Int) < 256 := by omega
  have d2 : (0 : Int) ≤ h - l := by omega
  clear hB hc hxe hx hm hq
  go_enter Try.func23, Try.ntmps23
  go_wp2
  go_quiet (fail)
  go_wp2
  go_ret
  exact ⟨rfl, Drawn0.step (Drawn0.refl _) _⟩
theorem CB.get {w : World} {g n : Nat} {l h : Int} {c : List Int} (hB : CB w g l h c) (hn : n < c.length) : w.cell? ⟨g, 2 + n, none⟩ = some (.int .i64 (c.getD n 0)) := by
  have := Blk.cell hB (2 + n) undef (by rw [coder_len]; omega)
  rwa [coder_get _ _ _ _ hn] at this
structure PW (w0 w : World) (g : Nat) (l h : Int) (c : List Int) (v : Value) (ys : List Int) : Prop where
  box : CB w g l h c
  row : w.ownsRow w0.heap.size 5 1 v ys.length (nums .u8 ys)
  ch : Ch (fun i => i = g) w0 w
  lt : g < w0.heap.size
section
variable {w0 w w1 : World} {g : Nat} {l h l2 h2 : Int} {c : List Int} {v v1 : Value} {ys zs : List Int}
theorem PW.drawn (p : PW w0 w g l h c v ys) (n : Nat) : PW w0 (w.drewN n) g l h c v ys := ⟨p.box, p.row, p.ch.drewN n, p.lt⟩
theorem PW.grown (p : PW w0 w g l h c v ys) (hr : w1.ownsRow w0.heap.size 5 1 v1 zs.length (nums .u8 zs)) (hg : w.grownBy w1 v.ownBlock) : PW w0 w1 g l h c v1 zs := ⟨blk_grown p.box hg (fun e => by have := own_blk p.row g e.symm; have := p.lt; omega), hr, ⟨hg.os.trans p.ch.os, hg.tape.trans p.ch.tape, hg.output.trans p.ch.output, Nat.le_trans p.ch.size hg.size, fun i hi hs => (hg.block i (Nat.lt_of_lt_of_le hi p.ch.size) (fun e => by have := own_blk p.row i e.symm; omega)).trans (p.ch.block i hi hs)⟩, p.lt⟩
theorem PW.set (p : PW w0 w g l h c v ys) (l2 h2 : Int) : PW w0 ((w.setCell ⟨g, 0, none⟩ (.int .u64 l2)).setCell ⟨g, 1, none⟩ (.int .u64 h2)) g l2 h2 c v ys := by
  have hne : some g ≠ v.ownBlock := fun e => by have := own_blk p.row g e.symm; have := p.lt; omega
  exact ⟨(p.box.put 0 (.int .u64 l2)).put 1 (.int .u64 h2), own_setCell (own_setCell p.row hne _) hne _, (p.ch.set rfl).set rfl, p.lt⟩
end
def bv (b : Bool) : Int := if b then 1 else 0
def RPost (g : Nat) (s : Cs) (o : List Int) (w : World) (e : Ending) (w' : World) : Prop := ∃ v, e = .returned v ∧ w'.ownsRow w.heap.size 5 1 v o.length (nums .u8 o) ∧ CB w' g s.l s.h s.c ∧ Ch (fun i => i = g) w w'
set_option maxRecDepth 100000 in
set_option maxHeartbeats 8000000 in
theorem refput_any (g n : Nat) (s : Cs) (b : Bool) (hO : OkS s) (hn : n < 256) (w0 : World) (hB : CB w0 g s.l s.h s.c) : Calls Try.prog 15 #[.pointer (some ⟨g, 0, none⟩), .int .i64 n, .int .i64 (bv b)] w0 (RPost g (put s n b) (out s n b) w0) := by
  have hx := hO.2.2.2.2.2 n hn
  have hlt : s.l < s.h := by
    obtain ⟨x1, x2, x3, x4, x5⟩ := hO
    omega
  have HMD0 := refmid_any g n s.l s.h s.c hO.1 hlt hO.2.2.1 hO.2.2.2.2 hn w0 hB
  have cc0 : w0.cell? ⟨g, 2 + n, none⟩ = some (.int .i64 (s.c.getD n 0)) := by
    have := hB.cell (2 + n) undef (by rw [coder_len, hO.2.2.2.2.1]; omega)
    rwa [coder_get _ _ _ _ (by rw [hO.2.2.2.2.1]; exact hn)] at this
  have hcl : cl s n b = if b then s.l else mid s.l s.h (s.c.getD n 0) + 1 := rfl
  have hcu : cu s n b = if b then mid s.l s.h (s.c.getD n 0) else s.h := rfl
  have hlr : lrn s.c n b = s.c.set n (if b then s.c.getD n 0 + (4096 - s.c.getD n 0) / 32 else s.c.getD n 0 - s.c.getD n 0 / 32) := rfl
  obtain ⟨x, hxe⟩ : ∃ x, s.c.getD n 0 = x := ⟨_, rfl⟩
  rw [hxe] at hx HMD0 cc0 hcl hcu hlr
  have HXE : Aside0 (s.c.getD n 0 = x ∧ n < s.c.length) := ⟨hxe, by rw [hO.2.2.2.2.1]; exact hn⟩
  have hmm := mid_in hlt hx.1 hx.2
  obtain ⟨m, hm⟩ : ∃ m, mid s.l s.h x = m := ⟨_, rfl⟩
  rw [hm] at HMD0 hcl hcu hmm
  have HMD := Aside0.mk HMD0
  have HWD := Aside0.mk (cut_wd hO hn b)
  have hpo : out s n b = (norm 4 (cl s n b) (cu s n b)).1 ∧ put s n b = ⟨(norm 4 (cl s n b) (cu s n b)).2.1, (norm 4 (cl s n b) (cu s n b)).2.2, lrn s.c n b⟩ := ⟨rfl, rfl⟩
  obtain ⟨l1, hl1⟩ : ∃ l1, cl s n b = l1 := ⟨_, rfl⟩
  obtain ⟨h1, hh1⟩ : ∃ h1, cu s n b = h1 := ⟨_, rfl⟩
  obtain ⟨c1, hc1⟩ : ∃ c1, lrn s.c n b = c1 := ⟨_, rfl⟩
  rw [hl1, hh1, hc1] at hpo
  rw [hl1, hh1] at HWD
  rw [hl1] at hcl
  rw [hh1] at hcu
  rw [hc1] at hlr
  have HPO := Aside0.mk hpo
  have HXB := Aside0.mk hB
  have HC0 := Aside0.mk cc0
  have s0 := hO.1
  have s1 := hO.2.2.1
  have x0 : 0 ≤ x := by omega
  have x1 : x ≤ 4095 := hx.2
  have m0 : 0 ≤ m := by omega
  have m1 : m < 4294967295 := by omega
  have n0 : (0 : Int) ≤ n := by omega
  have n1 : (n : Int) < 256 := by omega
  have HLT : Aside0 (g < w0.heap.size) := ⟨hB.lt⟩
  unfold RPost
  rw [HPO.out.1, HPO.out.2]
  clear hpo hl1 hh1 hc1 hB cc0 hO hx hlt hm hmm HMD0 hxe HPO
  cases b
  · simp only [Bool.false_eq_true, if_false] at hcl hcu hlr
    have HLH := Aside0.mk (And.intro hcl hcu)
    have HC1 := Aside0.mk hlr.symm
    clear hlr hcl hcu
    go_enter Try.func15, Try.ntmps15
    go_wp2_with fail
    refine HMD.out.mono ?_
    rintro e wm ⟨rfl, hdm⟩
    have HXM : Aside0 (CB wm g s.l s.h s.c ∧ Ch (fun i => i = g) w0 wm ∧ wm.cell? ⟨g, 2 + n, none⟩ = some (.int .i64 x)) := ⟨HXB.out.drawn hdm, by obtain ⟨⟨nq, rfl⟩⟩ := hdm; exact (Ch.refl _ _).drewN nq, by obtain ⟨⟨nq, rfl⟩⟩ := hdm; exact HC0.out⟩
    have k0 : wm.cell? ⟨g, 0, none⟩ = some (.int .u64 s.l) := (HXM.out.1.cell 0 undef (by simp [coder])).trans rfl
    have fr := HXM.out.1.free
    clear hdm
    go_wp2
    have HB : Aside0 (CB (wm.setCell ⟨g, 0, none⟩ (.int .u64 (m + 1))) g (m + 1) s.h s.c) := ⟨HXM.out.1.put 0 (.int .u64 (m + 1))⟩
    have HCQ : Aside0 (Ch (fun i => i = g) w0 (wm.setCell ⟨g, 0, none⟩ (.int .u64 (m + 1)))) := ⟨HXM.out.2.1.set rfl⟩
    have HC : Aside0 ((wm.setCell ⟨g, 0, none⟩ (.int .u64 (m + 1))).cell? ⟨g, 2 + n, none⟩ = some (.int .i64 x)) := ⟨by rw [← HXE.out.1]; exact HB.out.get HXE.out.2⟩
    generalize wm.setCell ⟨g, 0, none⟩ (.int .u64 (m + 1)) = wq at HB HCQ HC ⊢
    clear k0 fr HXM HMD HXB HC0
    have hw0 : x.tdiv 32 = x / 32 := Int.tdiv_eq_ediv_of_nonneg (by omega)
    have hw3 : IntKind.i64.wrap (x / 32) = x / 32 := by rw [IntKind.wrap_i64]; omega
    have hw2 : IntKind.i64.wrap (x - x / 32) = x - x / 32 := by rw [IntKind.wrap_i64]; omega
    refine St.steadyW (n := 20) (by kernel_rfl) ([] :: [] :: [] :: [] :: [(2, 45)] :: [(4, 47)] :: [(3, 46), (5, 48)] :: [(6, 49)] :: [] :: [] :: [(8, 51)] :: [(10, 53)] :: [(9, 52), (11, 54)] :: [(12, 55)] :: [(13, 56)] :: [(7, 50), (14, 57)] :: [(0, 43)] :: [(16, 59)] :: [(1, 44), (17, 60)] :: [(15, 58), (18, 61)] :: []) (some 43 :: some 44 :: some 45 :: some 46 :: some 47 :: some 48 :: some 49 :: some 50 :: some 51 :: some 52 :: some 53 :: some 54 :: some 55 :: some 56 :: some 57 :: some 58 :: some 59 :: some 60 :: some 61 :: none :: []) (by kernel_rfl) 19 (0 :: 0 :: 0 :: 0 :: 0 :: 0 :: 0 :: 0 :: 0 :: 0 :: 0 :: 0 :: 0 :: 0 :: 0 :: 0 :: 0 :: 0 :: 0 :: 1 :: []) (by kernel_rfl) rfl (by decide) ((St.eqT ?c5_0x6) :: (St.eqT ?c5_1x6) :: (St.eqT ?c5_2x6) :: (St.eqT ?c5_3x6) :: (St.eqT ?c5_4x6) :: (St.eqT ?c5_5x6) :: (St.eqT ?c5_6x6) :: (St.eqT ?c5_7x6) :: (St.eqT ?c5_8x6) :: (St.eqT ?c5_9x6) :: (St.eqT ?c5_10x6) :: (St.eqT ?c5_11x6) :: (St.eqT ?c5_12x6) :: (St.eqT ?c5_13x6) :: (St.eqT ?c5_14x6) :: (St.eqT ?c5_15x6) :: (St.eqT ?c5_16x6) :: (St.eqT ?c5_17x6) :: (St.eqT ?c5_18x6) :: (St.eqT undef) :: []) rfl (by rfl) (fun w' => Drawn0 wq w') (fun w w' => w = w') (fun _ _ => True) (fun w' => ∃ nq, w' = ((wq.drewN nq).setCell ⟨g, 2 + n, none⟩ (.int .i64 (x - x / 32)))) (fun w w' => w = w') ?hst ?h0 ?hB ?hC ?hop ?hend
    case hop =>
      refine ⟨?_, ?_, ?_, ?_, ?_, ?_, ?_, ?_, ?_, ?_, ?_, ?_, ?_, ?_, ?_, ?_, ?_, ?_, ?_, ?_, trivial⟩
      · intro w hB
        simp only [St.withD]
        refine St.ob_value (v := ?_) (w' := w) (by rfl) ?_ ⟨rfl, ?_⟩
        rotate_left
        · go_simp
          with_reducible rfl
        · rfl
      · intro w hB
        simp only [St.withD]
        refine St.ob_value (v := ?_) (w' := w) (by rfl) ?_ ⟨rfl, ?_⟩
        rotate_left
        · go_simp
          with_reducible rfl
        · rfl
      · intro w hB
        simp only [St.withD]
        refine St.ob_value (v := ?_) (w' := w) (by rfl) ?_ ⟨rfl, ?_⟩
        rotate_left
        · go_simp
          with_reducible rfl
        · rfl
      · intro w hB
        simp only [St.withD]
        refine St.ob_value (v := ?_) (w' := w) (by rfl) ?_ ⟨rfl, ?_⟩
        rotate_left
        · go_simp
          with_reducible rfl
        · rfl
      · intro w hB; rintro _ ⟨_, rfl⟩
        simp only [St.withD, List.nil_append, List.cons_append, Act.put, List.setIfInBounds_toArray, List.set_cons_zero, List.set_cons_succ]
        refine St.ob_value (v := ?_) (w' := w) (by rfl) ?_ ⟨rfl, ?_⟩
        rotate_left
        · go_simp
          with_reducible rfl
        · rfl
      · intro w hB; rintro _ ⟨_, rfl⟩
        simp only [St.withD, List.nil_append, List.cons_append, Act.put, List.setIfInBounds_toArray, List.set_cons_zero, List.set_cons_succ]
        refine St.ob_value (v := ?_) (w' := w) (by rfl) ?_ ⟨rfl, ?_⟩
        rotate_left
        · go_simp
          with_reducible rfl
        · rfl
      · intro w hB; rintro _ ⟨_, rfl⟩ _ ⟨_, rfl⟩
        simp only [St.withD, List.nil_append, List.cons_append, Act.put, List.setIfInBounds_toArray, List.set_cons_zero, List.set_cons_succ]
        refine St.ob_value (v := ?_) (w' := w) (by rfl) ?_ ⟨rfl, ?_⟩
        rotate_left
        · go_simp
          with_reducible rfl
        · rfl
      · intro w hB; rintro _ ⟨_, rfl⟩
        simp only [St.withD, List.nil_append, List.cons_append, Act.put, List.setIfInBounds_toArray, List.set_cons_zero, List.set_cons_succ]
        have c0 : w.cell? ⟨g, 2 + n, none⟩ = some (.int .i64 x) := by obtain ⟨⟨nq, rfl⟩⟩ := hB; exact HC.out
        refine St.ob_value (v := ?_) (w' := w) (by rfl) ?_ ⟨rfl, ?_⟩
        rotate_left
        · go_simp
          with_reducible rfl
        · rfl
      · intro w hB
        simp only [St.withD]
        refine St.ob_value (v := ?_) (w' := w) (by rfl) ?_ ⟨rfl, ?_⟩
        rotate_left
        · go_simp
          with_reducible rfl
        · rfl
      · intro w hB
        simp only [St.withD]
        refine St.ob_value (v := ?_) (w' := w) (by rfl) ?_ ⟨rfl, ?_⟩
        rotate_left
        · go_simp
          with_reducible rfl
        · rfl
      · intro w hB; rintro _ ⟨_, rfl⟩
        simp only [St.withD, List.nil_append, List.cons_append, Act.put, List.setIfInBounds_toArray, List.set_cons_zero, List.set_cons_succ]
        refine St.ob_value (v := ?_) (w' := w) (by rfl) ?_ ⟨rfl, ?_⟩
        rotate_left
        · go_simp
          with_reducible rfl
        · rfl
      · intro w hB; rintro _ ⟨_, rfl⟩
        simp only [St.withD, List.nil_append, List.cons_append, Act.put, List.setIfInBounds_toArray, List.set_cons_zero, List.set_cons_succ]
        refine St.ob_value (v := ?_) (w' := w) (by rfl) ?_ ⟨rfl, ?_⟩
        rotate_left
        · go_simp
          with_reducible rfl
        · rfl
      · intro w hB; rintro _ ⟨_, rfl⟩ _ ⟨_, rfl⟩
        simp only [St.withD, List.nil_append, List.cons_append, Act.put, List.setIfInBounds_toArray, List.set_cons_zero, List.set_cons_succ]
        refine St.ob_value (v := ?_) (w' := w) (by rfl) ?_ ⟨rfl, ?_⟩
        rotate_left
        · go_simp
          with_reducible rfl
        · rfl
      · intro w hB; rintro _ ⟨_, rfl⟩
        simp only [St.withD, List.nil_append, List.cons_append, Act.put, List.setIfInBounds_toArray, List.set_cons_zero, List.set_cons_succ]
        have c0 : w.cell? ⟨g, 2 + n, none⟩ = some (.int .i64 x) := by obtain ⟨⟨nq, rfl⟩⟩ := hB; exact HC.out
        refine St.ob_value (v := ?_) (w' := w) (by rfl) ?_ ⟨rfl, ?_⟩
        rotate_left
        · go_simp
          with_reducible rfl
        · rfl
      · intro w hB; rintro _ ⟨_, rfl⟩
        simp only [St.withD, List.nil_append, List.cons_append, Act.put, List.setIfInBounds_toArray, List.set_cons_zero, List.set_cons_succ]
        refine St.ob_value (v := ?_) (w' := w) (by rfl) ?_ ⟨rfl, ?_⟩
        rotate_left
        · go_simp
          with_reducible rfl
        · rfl
      · intro w hB; rintro _ ⟨_, rfl⟩ _ ⟨_, rfl⟩
        simp only [St.withD, List.nil_append, List.cons_append, Act.put, List.setIfInBounds_toArray, List.set_cons_zero, List.set_cons_succ]
        refine St.ob_value (v := ?_) (w' := w) (by rfl) ?_ ⟨rfl, ?_⟩
        rotate_left
        · go_simp
          with_reducible rfl
        · rfl
      · intro w hB; rintro _ ⟨_, rfl⟩
        simp only [St.withD, List.nil_append, List.cons_append, Act.put, List.setIfInBounds_toArray, List.set_cons_zero, List.set_cons_succ]
        refine St.ob_value (v := ?_) (w' := w) (by rfl) ?_ ⟨rfl, ?_⟩
        rotate_left
        · go_simp
          with_reducible rfl
        · rfl
      · intro w hB; rintro _ ⟨_, rfl⟩
        simp only [St.withD, List.nil_append, List.cons_append, Act.put, List.setIfInBounds_toArray, List.set_cons_zero, List.set_cons_succ]
        refine St.ob_value (v := ?_) (w' := w) (by rfl) ?_ ⟨rfl, ?_⟩
        rotate_left
        · go_simp
          with_reducible rfl
        · rfl
      · intro w hB; rintro _ ⟨_, rfl⟩ _ ⟨_, rfl⟩
        simp only [St.withD, List.nil_append, List.cons_append, Act.put, List.setIfInBounds_toArray, List.set_cons_zero, List.set_cons_succ]
        refine St.ob_value (v := ?_) (w' := w) (by rfl) ?_ ⟨rfl, ?_⟩
        rotate_left
        · go_simp
          with_reducible rfl
        · rfl
      · intro w hB; rintro _ ⟨_, rfl⟩ _ ⟨_, rfl⟩
        simp only [St.withD, List.nil_append, List.cons_append, Act.put, List.setIfInBounds_toArray, List.set_cons_zero, List.set_cons_succ]
        obtain ⟨⟨nq, rfl⟩⟩ := hB
        have f2 : (wq.drewN nq).frozen? ⟨g, 2 + n, none⟩ = false := HB.out.free _
        have c0 : wq.cell? ⟨g, 2 + n, none⟩ = some (.int .i64 x) := HC.out
        refine St.ob_skip (w' := ((wq.drewN nq).setCell ⟨g, 2 + n, none⟩ (.int .i64 (x - x / 32)))) (by rfl) ?_ ⟨⟨trivial, nq, rfl⟩, rfl⟩
        go_simp
        try rfl
    case hst => exact ⟨St.eqT_st, St.eqT_st, St.eqT_st, St.eqT_st, St.eqT_st, St.eqT_st, St.eqT_st, St.eqT_st, St.eqT_st, St.eqT_st, St.eqT_st, St.eqT_st, St.eqT_st, St.eqT_st, St.eqT_st, St.eqT_st, St.eqT_st, St.eqT_st, St.eqT_st, St.eqT_st, trivial⟩
    case h0 => exact Drawn0.step (Drawn0.refl _) 1
    case hB => exact fun w w' h e => e ▸ h
    case hC => (intro w w' h e; subst e; exact h)
    case hend =>
      intro w hB
      rintro _ rfl _ rfl _ rfl _ rfl _ rfl _ rfl _ rfl _ rfl _ rfl _ rfl _ rfl _ rfl _ rfl _ rfl _ rfl _ rfl _ rfl _ rfl _ rfl _ rfl
      simp only [List.map_cons, List.map_nil, List.nil_append, List.cons_append, List.getD_cons_zero, List.getD_cons_succ, Act.put, List.setIfInBounds_toArray, List.set_cons_zero, List.set_cons_succ]
      rw [St.withE_nil]
      clear hw0 hw2 hw3
      try clear hw1
      obtain ⟨nq, rfl⟩ := hB
      have HP : Aside0 (PW w0 ((wq.drewN nq).setCell ⟨g, 2 + n, none⟩ (.int .i64 (x - x / 32))) g l1 h1 c1 (.slice none 0 0) []) := ⟨by
        rw [← HC1.out, HLH.out.1, HLH.out.2]
        exact ⟨by
          have e := HB.out.put (2 + n) (.int .i64 (x - x / 32))
          rw [id, coder_set] at e
          exact e, ⟨rfl, .inl ⟨rfl, rfl⟩⟩, (HCQ.out.drewN nq).set rfl, HLT.out⟩⟩
      generalize ((wq.drewN nq).setCell ⟨g, 2 + n, none⟩ (.int .i64 (x - x / 32))) = V at HP ⊢
      clear HB HC HCQ HC1 HLH
      go_wp2
      go_loopg [7] 4 (fun gk x7 wr => ∃ (l h : Int) (ys : List Int), Aside0 (Wd gk l h ∧ (norm gk l h).2 = (norm 4 l1 h1).2 ∧ ys ++ (norm gk l h).1 = (norm 4 l1 h1).1) ∧ Aside0 (PW w0 wr g l h c1 x7 ys))
      case atStart => exact ⟨l1, h1, [], ⟨HWD.out, rfl, rfl⟩, HP⟩
      case round =>
        clear HP
        obtain ⟨l, h, ys, HI, HP⟩ := hrel
        obtain ⟨hw, hn2', hla⟩ := HI.out
        have hyl : ys.length ≤ 4 := by
          have := congrArg List.length hla
          have h4 := (norm_ok 4 l1 h1 HWD.out).2.2.2.2.1
          simp only [List.length_append] at this
          omega
        have k0 : wr.cell? ⟨g, 0, none⟩ = some (.int .u64 l) := (HP.out.box.cell 0 undef (by simp [coder])).trans rfl
        have k1 : wr.cell? ⟨g, 1, none⟩ = some (.int .u64 h) := (HP.out.box.cell 1 undef (by simp [coder])).trans rfl
        have hl0 : 0 ≤ l := hw.1
        have hl1 : l < 4294967296 := by have := hw.2.1; have := hw.2.2.1; omega
        have hh0 : 0 ≤ h := by have := hw.1; have := hw.2.1; omega
        have hh1 : h < 4294967296 := hw.2.2.1
        by_cases he : l / 16777216 = h / 16777216
        · obtain ⟨f2, rfl⟩ : ∃ f2, gk = f2 + 1 := ⟨gk - 1, by
            rcases Nat.eq_zero_or_pos gk with e | e
            · subst e; exact absurd he (wd_zero hw)
            · omega⟩
          have hwm := wd_moved hw he
          have hnn : norm (f2 + 1) l h = (l / 16777216 :: (norm f2 (l % 16777216 * 256) (h % 16777216 * 256 + 255)).1, (norm f2 (l % 16777216 * 256) (h % 16777216 * 256 + 255)).2) := by
            show (if _ then _ else _) = _
            rw [if_pos he]
          rw [hnn] at hn2' hla
          obtain ⟨q, hq0⟩ : ∃ q, l / 16777216 = q := ⟨_, rfl⟩
          have hqa : 0 ≤ q := by omega
          have hqb : q < 256 := by omega
          have HNM : Aside0 (Wd f2 (l % 16777216 * 256) (h % 16777216 * 256 + 255) ∧ (norm f2 (l % 16777216 * 256) (h % 16777216 * 256 + 255)).2 = (norm 4 l1 h1).2 ∧ (ys ++ [q]) ++ (norm f2 (l % 16777216 * 256) (h % 16777216 * 256 + 255)).1 = (norm 4 l1 h1).1) := ⟨hwm, hn2', by rw [← hq0, List.append_assoc]; exact hla⟩
          have hqq : (l / 16777216 == h / 16777216) = true := beq_iff_eq.2 he
          clear hw hn2' hla he hwm hnn HI
          go_wp2
          go_quiet (fail)
          have hgl := HP.out.ch.size
          rw [hq0]
          have h8 : IntKind.u8.wrap q = q := by rw [w8]; omega
          go_wp2_with ((with_reducible refine gate_dst (N := 81) rfl ?_); refine print_append_num (w0 := _) w0.heap.size rfl (.tmp 73) (.tmp 80) 36 5 .u8 1 rfl Try.underlying36 info5 (by decide) u7 ys q rfl rfl (HP.out.drawn _).row (Below.refl _ _) (by simp; omega) (by omega) ?_; intro v1 w1 hown hbel hgrow hat; have HP1 := Aside0.mk ((HP.out.drawn _).grown hown hgrow); have k0 : w1.cell? ⟨g, 0, none⟩ = some (.int .u64 l) := (HP1.out.box.cell 0 undef (by simp [coder])).trans rfl; have k1 : w1.cell? ⟨g, 1, none⟩ = some (.int .u64 h) := (HP1.out.box.cell 1 undef (by simp [coder])).trans rfl; have f1 := Blk.free HP1.out.box; clear hown hbel hgrow hat)
          go_roundg f2
          case measure => omega
          case rel => exact ⟨l % 16777216 * 256, h % 16777216 * 256 + 255, ys ++ [q], HNM, ⟨HP1.out.set _ _⟩⟩
        · have hnn : norm gk l h = ([], l, h) := by
            cases gk with
            | zero => rfl
            | succ f2 =>
              show (if _ then _ else _) = _
              rw [if_neg he]
          rw [hnn] at hn2' hla
          have HFN : Aside0 (ys = (norm 4 l1 h1).1 ∧ l = (norm 4 l1 h1).2.1 ∧ h = (norm 4 l1 h1).2.2) := ⟨by rw [← hla, List.append_nil], by rw [← hn2'], by rw [← hn2']⟩
          have hqq : (l / 16777216 == h / 16777216) = false := beq_eq_false_iff_ne.2 he
          clear hw hn2' hla he hnn HI
          go_wp2
          go_quiet (fail)
          go_wp2
          go_ret
          obtain ⟨e1, e2, e3⟩ := HFN.out
          refine ⟨_, rfl, ?_, ?_, HP.out.ch.drewN _⟩
          · rw [← e1]; exact (HP.out.drawn _).row
          · show CB _ g (norm 4 l1 h1).2.1 (norm 4 l1 h1).2.2 c1
            rw [← e2, ← e3]
            exact (HP.out.drawn _).box
  · simp only [if_true] at hcl hcu hlr
    have HLH := Aside0.mk (And.intro hcl hcu)
    have HC1 := Aside0.mk hlr.symm
    clear hlr hcl hcu
    go_enter Try.func15, Try.ntmps15
    go_wp2_with fail
    refine HMD.out.mono ?_
    rintro e wm ⟨rfl, hdm⟩
    have HXM : Aside0 (CB wm g s.l s.h s.c ∧ Ch (fun i => i = g) w0 wm ∧ wm.cell? ⟨g, 2 + n, none⟩ = some (.int .i64 x)) := ⟨HXB.out.drawn hdm, by obtain ⟨⟨nq, rfl⟩⟩ := hdm; exact (Ch.refl _ _).drewN nq, by obtain ⟨⟨nq, rfl⟩⟩ := hdm; exact HC0.out⟩
    have k0 : wm.cell? ⟨g, 1, none⟩ = some (.int .u64 s.h) := (HXM.out.1.cell 1 undef (by simp [coder])).trans rfl
    have fr := HXM.out.1.free
    clear hdm
    go_wp2
    have HB : Aside0 (CB (wm.setCell ⟨g, 1, none⟩ (.int .u64 m)) g s.l m s.c) := ⟨HXM.out.1.put 1 (.int .u64 m)⟩
    have HCQ : Aside0 (Ch (fun i => i = g) w0 (wm.setCell ⟨g, 1, none⟩ (.int .u64 m))) := ⟨HXM.out.2.1.set rfl⟩
    have HC : Aside0 ((wm.setCell ⟨g, 1, none⟩ (.int .u64 m)).cell? ⟨g, 2 + n, none⟩ = some (.int .i64 x)) := ⟨by rw [← HXE.out.1]; exact HB.out.get HXE.out.2⟩
    generalize wm.setCell ⟨g, 1, none⟩ (.int .u64 m) = wq at HB HCQ HC ⊢
    clear k0 fr HXM HMD HXB HC0
    have hw0 : (4096 - x).tdiv 32 = (4096 - x) / 32 := Int.tdiv_eq_ediv_of_nonneg (by omega)
    have hw3 : IntKind.i64.wrap ((4096 - x) / 32) = (4096 - x) / 32 := by rw [IntKind.wrap_i64]; omega
    have hw1 : IntKind.i64.wrap (4096 - x) = 4096 - x := by rw [IntKind.wrap_i64]; omega
    have hw2 : IntKind.i64.wrap (x + (4096 - x) / 32) = x + (4096 - x) / 32 := by rw [IntKind.wrap_i64]; omega
    refine St.steadyW (n := 21) (by kernel_rfl) ([] :: [] :: [] :: [] :: [(2, 18)] :: [(4, 20)] :: [(3, 19), (5, 21)] :: [(6, 22)] :: [] :: [] :: [(8, 24)] :: [(10, 26)] :: [(9, 25), (11, 27)] :: [(12, 28)] :: [(13, 29)] :: [(14, 30)] :: [(7, 23), (15, 31)] :: [(0, 16)] :: [(17, 33)] :: [(1, 17), (18, 34)] :: [(16, 32), (19, 35)] :: []) (some 16 :: some 17 :: some 18 :: some 19 :: some 20 :: some 21 :: some 22 :: some 23 :: some 24 :: some 25 :: some 26 :: some 27 :: some 28 :: some 29 :: some 30 :: some 31 :: some 32 :: some 33 :: some 34 :: some 35 :: none :: []) (by kernel_rfl) 20 (0 :: 0 :: 0 :: 0 :: 0 :: 0 :: 0 :: 0 :: 0 :: 0 :: 0 :: 0 :: 0 :: 0 :: 0 :: 0 :: 0 :: 0 :: 0 :: 0 :: 1 :: []) (by kernel_rfl) rfl (by decide) ((St.eqT ?c3_0x7) :: (St.eqT ?c3_1x7) :: (St.eqT ?c3_2x7) :: (St.eqT ?c3_3x7) :: (St.eqT ?c3_4x7) :: (St.eqT ?c3_5x7) :: (St.eqT ?c3_6x7) :: (St.eqT ?c3_7x7) :: (St.eqT ?c3_8x7) :: (St.eqT ?c3_9x7) :: (St.eqT ?c3_10x7) :: (St.eqT ?c3_11x7) :: (St.eqT ?c3_12x7) :: (St.eqT ?c3_13x7) :: (St.eqT ?c3_14x7) :: (St.eqT ?c3_15x7) :: (St.eqT ?c3_16x7) :: (St.eqT ?c3_17x7) :: (St.eqT ?c3_18x7) :: (St.eqT ?c3_19x7) :: (St.eqT undef) :: []) rfl (by rfl) (fun w' => Drawn0 wq w') (fun w w' => w = w') (fun _ _ => True) (fun w' => ∃ nq, w' = ((wq.drewN nq).setCell ⟨g, 2 + n, none⟩ (.int .i64 (x + (4096 - x) / 32)))) (fun w w' => w = w') ?hst ?h0 ?hB ?hC ?hop ?hend
    case hop =>
      refine ⟨?_, ?_, ?_, ?_, ?_, ?_, ?_, ?_, ?_, ?_, ?_, ?_, ?_, ?_, ?_, ?_, ?_, ?_, ?_, ?_, ?_, trivial⟩
      · intro w hB
        simp only [St.withD]
        refine St.ob_value (v := ?_) (w' := w) (by rfl) ?_ ⟨rfl, ?_⟩
        rotate_left
        · go_simp
          with_reducible rfl
        · rfl
      · intro w hB
        simp only [St.withD]
        refine St.ob_value (v := ?_) (w' := w) (by rfl) ?_ ⟨rfl, ?_⟩
        rotate_left
        · go_simp
          with_reducible rfl
        · rfl
      · intro w hB
        simp only [St.withD]
        refine St.ob_value (v := ?_) (w' := w) (by rfl) ?_ ⟨rfl, ?_⟩
        rotate_left
        · go_simp
          with_reducible rfl
        · rfl
      · intro w hB
        simp only [St.withD]
        refine St.ob_value (v := ?_) (w' := w) (by rfl) ?_ ⟨rfl, ?_⟩
        rotate_left
        · go_simp
          with_reducible rfl
        · rfl
      · intro w hB; rintro _ ⟨_, rfl⟩
        simp only [St.withD, List.nil_append, List.cons_append, Act.put, List.setIfInBounds_toArray, List.set_cons_zero, List.set_cons_succ]
        refine St.ob_value (v := ?_) (w' := w) (by rfl) ?_ ⟨rfl, ?_⟩
        rotate_left
        · go_simp
          with_reducible rfl
        · rfl
      · intro w hB; rintro _ ⟨_, rfl⟩
        simp only [St.withD, List.nil_append, List.cons_append, Act.put, List.setIfInBounds_toArray, List.set_cons_zero, List.set_cons_succ]
        refine St.ob_value (v := ?_) (w' := w) (by rfl) ?_ ⟨rfl, ?_⟩
        rotate_left
        · go_simp
          with_reducible rfl
        · rfl
      · intro w hB; rintro _ ⟨_, rfl⟩ _ ⟨_, rfl⟩
        simp only [St.withD, List.nil_append, List.cons_append, Act.put, List.setIfInBounds_toArray, List.set_cons_zero, List.set_cons_succ]
        refine St.ob_value (v := ?_) (w' := w) (by rfl) ?_ ⟨rfl, ?_⟩
        rotate_left
        · go_simp
          with_reducible rfl
        · rfl
      · intro w hB; rintro _ ⟨_, rfl⟩
        simp only [St.withD, List.nil_append, List.cons_append, Act.put, List.setIfInBounds_toArray, List.set_cons_zero, List.set_cons_succ]
        have c0 : w.cell? ⟨g, 2 + n, none⟩ = some (.int .i64 x) := by obtain ⟨⟨nq, rfl⟩⟩ := hB; exact HC.out
        refine St.ob_value (v := ?_) (w' := w) (by rfl) ?_ ⟨rfl, ?_⟩
        rotate_left
        · go_simp
          with_reducible rfl
        · rfl
      · intro w hB
        simp only [St.withD]
        refine St.ob_value (v := ?_) (w' := w) (by rfl) ?_ ⟨rfl, ?_⟩
        rotate_left
        · go_simp
          with_reducible rfl
        · rfl
      · intro w hB
        simp only [St.withD]
        refine St.ob_value (v := ?_) (w' := w) (by rfl) ?_ ⟨rfl, ?_⟩
        rotate_left
        · go_simp
          with_reducible rfl
        · rfl
      · intro w hB; rintro _ ⟨_, rfl⟩
        simp only [St.withD, List.nil_append, List.cons_append, Act.put, List.setIfInBounds_toArray, List.set_cons_zero, List.set_cons_succ]
        refine St.ob_value (v := ?_) (w' := w) (by rfl) ?_ ⟨rfl, ?_⟩
        rotate_left
        · go_simp
          with_reducible rfl
        · rfl
      · intro w hB; rintro _ ⟨_, rfl⟩
        simp only [St.withD, List.nil_append, List.cons_append, Act.put, List.setIfInBounds_toArray, List.set_cons_zero, List.set_cons_succ]
        refine St.ob_value (v := ?_) (w' := w) (by rfl) ?_ ⟨rfl, ?_⟩
        rotate_left
        · go_simp
          with_reducible rfl
        · rfl
      · intro w hB; rintro _ ⟨_, rfl⟩ _ ⟨_, rfl⟩
        simp only [St.withD, List.nil_append, List.cons_append, Act.put, List.setIfInBounds_toArray, List.set_cons_zero, List.set_cons_succ]
        refine St.ob_value (v := ?_) (w' := w) (by rfl) ?_ ⟨rfl, ?_⟩
        rotate_left
        · go_simp
          with_reducible rfl
        · rfl
      · intro w hB; rintro _ ⟨_, rfl⟩
        simp only [St.withD, List.nil_append, List.cons_append, Act.put, List.setIfInBounds_toArray, List.set_cons_zero, List.set_cons_succ]
        have c0 : w.cell? ⟨g, 2 + n, none⟩ = some (.int .i64 x) := by obtain ⟨⟨nq, rfl⟩⟩ := hB; exact HC.out
        refine St.ob_value (v := ?_) (w' := w) (by rfl) ?_ ⟨rfl, ?_⟩
        rotate_left
        · go_simp
          with_reducible rfl
        · rfl
      · intro w hB; rintro _ ⟨_, rfl⟩
        simp only [St.withD, List.nil_append, List.cons_append, Act.put, List.setIfInBounds_toArray, List.set_cons_zero, List.set_cons_succ]
        refine St.ob_value (v := ?_) (w' := w) (by rfl) ?_ ⟨rfl, ?_⟩
        rotate_left
        · go_simp
          with_reducible rfl
        · rfl
      · intro w hB; rintro _ ⟨_, rfl⟩
        simp only [St.withD, List.nil_append, List.cons_append, Act.put, List.setIfInBounds_toArray, List.set_cons_zero, List.set_cons_succ]
        refine St.ob_value (v := ?_) (w' := w) (by rfl) ?_ ⟨rfl, ?_⟩
        rotate_left
        · go_simp
          with_reducible rfl
        · rfl
      · intro w hB; rintro _ ⟨_, rfl⟩ _ ⟨_, rfl⟩
        simp only [St.withD, List.nil_append, List.cons_append, Act.put, List.setIfInBounds_toArray, List.set_cons_zero, List.set_cons_succ]
        refine St.ob_value (v := ?_) (w' := w) (by rfl) ?_ ⟨rfl, ?_⟩
        rotate_left
        · go_simp
          with_reducible rfl
        · rfl
      · intro w hB; rintro _ ⟨_, rfl⟩
        simp only [St.withD, List.nil_append, List.cons_append, Act.put, List.setIfInBounds_toArray, List.set_cons_zero, List.set_cons_succ]
        refine St.ob_value (v := ?_) (w' := w) (by rfl) ?_ ⟨rfl, ?_⟩
        rotate_left
        · go_simp
          with_reducible rfl
        · rfl
      · intro w hB; rintro _ ⟨_, rfl⟩
        simp only [St.withD, List.nil_append, List.cons_append, Act.put, List.setIfInBounds_toArray, List.set_cons_zero, List.set_cons_succ]
        refine St.ob_value (v := ?_) (w' := w) (by rfl) ?_ ⟨rfl, ?_⟩
        rotate_left
        · go_simp
          with_reducible rfl
        · rfl
      · intro w hB; rintro _ ⟨_, rfl⟩ _ ⟨_, rfl⟩
        simp only [St.withD, List.nil_append, List.cons_append, Act.put, List.setIfInBounds_toArray, List.set_cons_zero, List.set_cons_succ]
        refine St.ob_value (v := ?_) (w' := w) (by rfl) ?_ ⟨rfl, ?_⟩
        rotate_left
        · go_simp
          with_reducible rfl
        · rfl
      · intro w hB; rintro _ ⟨_, rfl⟩ _ ⟨_, rfl⟩
        simp only [St.withD, List.nil_append, List.cons_append, Act.put, List.setIfInBounds_toArray, List.set_cons_zero, List.set_cons_succ]
        obtain ⟨⟨nq, rfl⟩⟩ := hB
        have f2 : (wq.drewN nq).frozen? ⟨g, 2 + n, none⟩ = false := HB.out.free _
        have c0 : wq.cell? ⟨g, 2 + n, none⟩ = some (.int .i64 x) := HC.out
        refine St.ob_skip (w' := ((wq.drewN nq).setCell ⟨g, 2 + n, none⟩ (.int .i64 (x + (4096 - x) / 32)))) (by rfl) ?_ ⟨⟨trivial, nq, rfl⟩, rfl⟩
        go_simp
        try rfl
    case hst => exact ⟨St.eqT_st, St.eqT_st, St.eqT_st, St.eqT_st, St.eqT_st, St.eqT_st, St.eqT_st, St.eqT_st, St.eqT_st, St.eqT_st, St.eqT_st, St.eqT_st, St.eqT_st, St.eqT_st, St.eqT_st, St.eqT_st, St.eqT_st, St.eqT_st, St.eqT_st, St.eqT_st, St.eqT_st, trivial⟩
    case h0 => exact Drawn0.step (Drawn0.refl _) 1
    case hB => exact fun w w' h e => e ▸ h
    case hC => (intro w w' h e; subst e; exact h)
    case hend =>
      intro w hB
      rintro _ rfl _ rfl _ rfl _ rfl _ rfl _ rfl _ rfl _ rfl _ rfl _ rfl _ rfl _ rfl _ rfl _ rfl _ rfl _ rfl _ rfl _ rfl _ rfl _ rfl _ rfl
      simp only [List.map_cons, List.map_nil, List.nil_append, List.cons_append, List.getD_cons_zero, List.getD_cons_succ, Act.put, List.setIfInBounds_toArray, List.set_cons_zero, List.set_cons_succ]
      rw [St.withE_nil]
      clear hw0 hw2 hw3
      try clear hw1
      obtain ⟨nq, rfl⟩ := hB
      have HP : Aside0 (PW w0 ((wq.drewN nq).setCell ⟨g, 2 + n, none⟩ (.int .i64 (x + (4096 - x) / 32))) g l1 h1 c1 (.slice none 0 0) []) := ⟨by
        rw [← HC1.out, HLH.out.1, HLH.out.2]
        exact ⟨by
          have e := HB.out.put (2 + n) (.int .i64 (x + (4096 - x) / 32))
          rw [id, coder_set] at e
          exact e, ⟨rfl, .inl ⟨rfl, rfl⟩⟩, (HCQ.out.drewN nq).set rfl, HLT.out⟩⟩
      generalize ((wq.drewN nq).setCell ⟨g, 2 + n, none⟩ (.int .i64 (x + (4096 - x) / 32))) = V at HP ⊢
      clear HB HC HCQ HC1 HLH
      go_wp2
      go_loopg [7] 4 (fun gk x7 wr => ∃ (l h : Int) (ys : List Int), Aside0 (Wd gk l h ∧ (norm gk l h).2 = (norm 4 l1 h1).2 ∧ ys ++ (norm gk l h).1 = (norm 4 l1 h1).1) ∧ Aside0 (PW w0 wr g l h c1 x7 ys))
      case atStart => exact ⟨l1, h1, [], ⟨HWD.out, rfl, rfl⟩, HP⟩
      case round =>
        clear HP
        obtain ⟨l, h, ys, HI, HP⟩ := hrel
        obtain ⟨hw, hn2', hla⟩ := HI.out
        have hyl : ys.length ≤ 4 := by
          have := congrArg List.length hla
          have h4 := (norm_ok 4 l1 h1 HWD.out).2.2.2.2.1
          simp only [List.length_append] at this
          omega
        have k0 : wr.cell? ⟨g, 0, none⟩ = some (.int .u64 l) := (HP.out.box.cell 0 undef (by simp [coder])).trans rfl
        have k1 : wr.cell? ⟨g, 1, none⟩ = some (.int .u64 h) := (HP.out.box.cell 1 undef (by simp [coder])).trans rfl
        have hl0 : 0 ≤ l := hw.1
        have hl1 : l < 4294967296 := by have := hw.2.1; have := hw.2.2.1; omega
        have hh0 : 0 ≤ h := by have := hw.1; have := hw.2.1; omega
        have hh1 : h < 4294967296 := hw.2.2.1
        by_cases he : l / 16777216 = h / 16777216
        · obtain ⟨f2, rfl⟩ : ∃ f2, gk = f2 + 1 := ⟨gk - 1, by
            rcases Nat.eq_zero_or_pos gk with e | e
            · subst e; exact absurd he (wd_zero hw)
            · omega⟩
          have hwm := wd_moved hw he
          have hnn : norm (f2 + 1) l h = (l / 16777216 :: (norm f2 (l % 16777216 * 256) (h % 16777216 * 256 + 255)).1, (norm f2 (l % 16777216 * 256) (h % 16777216 * 256 + 255)).2) := by
            show (if _ then _ else _) = _
            rw [if_pos he]
          rw [hnn] at hn2' hla
          obtain ⟨q, hq0⟩ : ∃ q, l / 16777216 = q := ⟨_, rfl⟩
          have hqa : 0 ≤ q := by omega
          have hqb : q < 256 := by omega
          have HNM : Aside0 (Wd f2 (l % 16777216 * 256) (h % 16777216 * 256 + 255) ∧ (norm f2 (l % 16777216 * 256) (h % 16777216 * 256 + 255)).2 = (norm 4 l1 h1).2 ∧ (ys ++ [q]) ++ (norm f2 (l % 16777216 * 256) (h % 16777216 * 256 + 255)).1 = (norm 4 l1 h1).1) := ⟨hwm, hn2', by rw [← hq0, List.append_assoc]; exact hla⟩
          have hqq : (l / 16777216 == h / 16777216) = true := beq_iff_eq.2 he
          clear hw hn2' hla he hwm hnn HI
          go_wp2
          go_quiet (fail)
          have hgl := HP.out.ch.size
          rw [hq0]
          have h8 : IntKind.u8.wrap q = q := by rw [w8]; omega
          go_wp2_with ((with_reducible refine gate_dst (N := 81) rfl ?_); refine print_append_num (w0 := _) w0.heap.size rfl (.tmp 73) (.tmp 80) 36 5 .u8 1 rfl Try.underlying36 info5 (by decide) u7 ys q rfl rfl (HP.out.drawn _).row (Below.refl _ _) (by simp; omega) (by omega) ?_; intro v1 w1 hown hbel hgrow hat; have HP1 := Aside0.mk ((HP.out.drawn _).grown hown hgrow); have k0 : w1.cell? ⟨g, 0, none⟩ = some (.int .u64 l) := (HP1.out.box.cell 0 undef (by simp [coder])).trans rfl; have k1 : w1.cell? ⟨g, 1, none⟩ = some (.int .u64 h) := (HP1.out.box.cell 1 undef (by simp [coder])).trans rfl; have f1 := Blk.free HP1.out.box; clear hown hbel hgrow hat)
          go_roundg f2
          case measure => omega
          case rel => exact ⟨l % 16777216 * 256, h % 16777216 * 256 + 255, ys ++ [q], HNM, ⟨HP1.out.set _ _⟩⟩
        · have hnn : norm gk l h = ([], l, h) := by
            cases gk with
            | zero => rfl
            | succ f2 =>
              show (if _ then _ else _) = _
              rw [if_neg he]
          rw [hnn] at hn2' hla
          have HFN : Aside0 (ys = (norm 4 l1 h1).1 ∧ l = (norm 4 l1 h1).2.1 ∧ h = (norm 4 l1 h1).2.2) := ⟨by rw [← hla, List.append_nil], by rw [← hn2'], by rw [← hn2']⟩
          have hqq : (l / 16777216 == h / 16777216) = false := beq_eq_false_iff_ne.2 he
          clear hw hn2' hla he hnn HI
          go_wp2
          go_quiet (fail)
          go_wp2
          go_ret
          obtain ⟨e1, e2, e3⟩ := HFN.out
          refine ⟨_, rfl, ?_, ?_, HP.out.ch.drewN _⟩
          · rw [← e1]; exact (HP.out.drawn _).row
          · show CB _ g (norm 4 l1 h1).2.1 (norm 4 l1 h1).2.2 c1
            rw [← e2, ← e3]
            exact (HP.out.drawn _).box
end Go.Proofs.Ytfijbhacobjjgae
