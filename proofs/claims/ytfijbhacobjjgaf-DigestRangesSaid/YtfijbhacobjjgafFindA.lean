/- The contract of the search. -/
import Derived.Test.YtfijbhacobjjgafProg
import Derived.Test.YtfijbhacobjjgafVals
import Derived.Test.YtfijbhacobjjgafWLast
import Derived.Test.YtfijbhacobjjgafWMore
import Derived.RegionTactic
import Derived.ChangeAlike
import Derived.BigRegion
import Derived.WalkLawsBesides
import Derived.WalkSpells
import Derived.Deep.LoopGhost
import Derived.Deep.QuietTactic
import Derived.BigQuiet
import Derived.OwnWalk
import Derived.Test.YtfijbhacobjjgafAskA
namespace Go.Proofs.Ytfijbhacobjjgaf
open Go.RowKit Go.Proofs.YtfijbhacobjjgafW.PrintWords Go.Proofs.YtfijbhacobjjgafW.PrintLast Go.Proofs.YtfijbhacobjjgafW.PrintMore Go.Proofs.Ytfijbhacobjjgaf.Fr
set_option linter.unusedVariables false
set_option linter.unusedSimpArgs false
attribute [local go_sem] max2_int min2_int max_two min_two

open Pl
/-- A list of up to 60 that was handed in. -/
structure LI (w : World) (A : Option Addr) (n c : Nat) (l : List ByteArray) : Prop where
  ls : LS w A n c l
  old : ∀ ad, A = some ad → 0 < n → ad.block < w.heap.size
theorem LI.below {w w1 : World} {A : Option Addr} {n c : Nat} {l : List ByteArray} (h : LI w A n c l) (hb : Below w.heap.size w w1) : LI w1 A n c l := ⟨h.ls.below hb, fun ad e h0 => Nat.lt_of_lt_of_le (h.old ad e h0) hb.size⟩
def fnT (a b : List ByteArray) (k : Nat) : List Int × Nat := if k = 0 then ([], 0) else fnd lf pr a b k 0
def FindPost (xs : List Int) (q : Int) (w : World) (e : Ending) (w' : World) : Prop := ∃ fv, e = .returned (.tuple #[fv, .int .i64 q]) ∧ w'.ownsRow w.heap.size 3 1 fv xs.length (nums .i64 xs) ∧ Below w.heap.size w w'
set_option maxRecDepth 100000 in
set_option maxHeartbeats 1000000 in
theorem find_any (A : Option Addr) (na ca : Nat) (a : List ByteArray) (B : Option Addr) (nb cb : Nat) (b : List ByteArray) (w : World) (hA : LI w A na ca a) (hB : LI w B nb cb b) : Calls Try.prog 8 #[.slice A na ca, .slice B nb cb] w (FindPost (fnT a b (min na nb)).1 (fnT a b (min na nb)).2 w) := by
  have hna := hA.ls.le
  have hnb := hB.ls.le
  have HB1 : Aside0 (∀ w : World, Calls Try.prog 18 #[.slice A na ca] w fun e w' => e = .returned (.slice A na ca) ∧ w' = w) := ⟨fun w => brought_any A na ca (by omega) hA.ls.cap w⟩
  have HB2 : Aside0 (∀ w : World, Calls Try.prog 18 #[.slice B nb cb] w fun e w' => e = .returned (.slice B nb cb) ∧ w' = w) := ⟨fun w => brought_any B nb cb (by omega) hB.ls.cap w⟩
  have HSB : Aside0 (SB (w.alloc (.cells #[.slice A na ca, .slice B nb cb, .slice none 0 0, .int .i64 0] 50)) w.heap.size A na ca a B nb cb b (.slice none 0 0) 0 []) := ⟨by
    have hal : Below w.heap.size w (w.alloc (.cells #[.slice A na ca, .slice B nb cb, .slice none 0 0, .int .i64 0] 50)) := below_alloc (Below.refl _ _) _
    exact ⟨blk_new w _, ⟨rfl, .inl ⟨rfl, rfl⟩⟩, hA.ls.below hal, hB.ls.below hal, hA.old, hB.old⟩⟩
  obtain ⟨k, hk⟩ : ∃ k, min na nb = k := ⟨_, rfl⟩
  have HK : Aside0 (min na nb = k) := ⟨hk⟩
  have hka : k ≤ na := by omega
  have hkb : k ≤ nb := by omega
  have hmn : (na ≤ nb ∧ k = na) ∨ (nb < na ∧ k = nb) := by omega
  have HAK : Aside0 (0 < k → ∀ w1 : World, SB w1 w.heap.size A na ca a B nb cb b (.slice none 0 0) 0 [] → Calls Try.prog 19 #[.pointer (some ⟨w.heap.size, 0, none⟩), .int .i64 0, .int .i64 (k : Int)] w1 (AskPost w.heap.size A na ca a B nb cb b (.slice none 0 0) (fnT a b k).2 (fnT a b k).1 w1)) := ⟨fun h0 w1 h1 => by
    have := ask_any w.heap.size A na ca a B nb cb b k 0 (.slice none 0 0) 0 [] w1 h0 (by omega) (by omega) (by simp; omega) (by decide) (by omega) h1
    rw [Nat.zero_add, List.nil_append, Int.zero_add] at this
    unfold fnT
    rw [if_neg (by omega)]
    exact this⟩
  rw [hk]
  clear hA hB hk
  unfold FindPost
  go_enter Try.func8, Try.ntmps8
  go_wp2_with fail
  refine (HB1.out _).mono ?_
  rintro e w1 ⟨rfl, rfl⟩
  go_wp2_with fail
  refine (HB2.out _).mono ?_
  rintro e w2 ⟨rfl, rfl⟩
  go_wp2
  have hbel : Below w2.heap.size w2 (w2.alloc (.cells #[.slice A na ca, .slice B nb cb, .slice none 0 0, .int .i64 0] 50)) := below_alloc (Below.refl _ _) _
  have HBE := Aside0.mk hbel
  clear hbel
  generalize w2.alloc (.cells #[.slice A na ca, .slice B nb cb, .slice none 0 0, .int .i64 0] 50) = V at HSB HBE ⊢
  obtain ⟨g, hg⟩ : ∃ g, w2.heap.size = g := ⟨_, rfl⟩
  have HGG := Aside0.mk hg
  rw [hg] at HSB HAK ⊢
  clear hg HB1 HB2
  have c0 : V.cell? ⟨g, 0, none⟩ = some (.slice A na ca) := (blk_cell HSB.out.box 0).trans rfl
  have c1 : V.cell? ⟨g, 1, none⟩ = some (.slice B nb cb) := (blk_cell HSB.out.box 1).trans rfl
  rcases hmn with ⟨h1, rfl⟩ | ⟨h1, rfl⟩
  · have h2 : (k : Int) ≤ nb := by omega
    go_quiet (fail)
    have HS2 : Aside0 (SB (V.drewN nq) g _ _ _ _ _ _ _ _ (.slice none 0 0) 0 [] ∧ Below w2.heap.size w2 (V.drewN nq)) := ⟨HSB.out.below (below_drewN (Below.refl _ _) nq), pw_below_drewN HBE.out nq⟩
    clear c0 c1 HSB HBE
    generalize V.drewN nq = V2 at HS2 ⊢
    by_cases h0 : 0 < k
    · have hk0 : (0 : Int) < k := by omega
      have HAK2 := Aside0.mk (HAK.out h0 V2 HS2.out.1)
      obtain ⟨X, hX⟩ : ∃ X, fnT a b k = X := ⟨_, rfl⟩
      rw [hX] at HAK2
      have HXX := Aside0.mk hX
      clear HAK hX
      go_wp2_with fail
      refine HAK2.out.mono ?_
      rintro e w5 ⟨rfl, ⟨fv, hs5, _⟩, hc5⟩
      obtain ⟨A5, cc5, rfl, _, _⟩ := own_nums hs5.row
      have HS5 : Aside0 (w5.ownsRow w2.heap.size 3 1 (.slice A5 X.1.length cc5) X.1.length (nums .i64 X.1) ∧ Below w2.heap.size w2 w5) := ⟨own_le hs5.row (by have := HGG.out; omega), Ch.onto HS2.out.2 hc5 HS2.out.2.size (fun i e => e.elim (fun e => by have := HGG.out; omega) (fun e => by cases e))⟩
      have c2 : w5.cell? ⟨g, 2, none⟩ = some (.slice A5 X.1.length cc5) := (blk_cell hs5.box 2).trans rfl
      have c3 : w5.cell? ⟨g, 3, none⟩ = some (.int .i64 (X.2 : Int)) := (blk_cell hs5.box 3).trans rfl
      clear hs5 hc5 HAK2 HS2
      go_wp2
      go_quiet (fail)
      go_wp2
      go_ret2
      rw [HXX.out]
      exact ⟨_, rfl, HS5.out.1, pw_below_drewN HS5.out.2 _⟩
    · have hk0 : ¬ (0 : Int) < k := by omega
      have HX : Aside0 (fnT a b k = ([], 0)) := ⟨by unfold fnT; rw [if_pos (by omega)]⟩
      have c2 : V2.cell? ⟨g, 2, none⟩ = some (.slice none 0 0) := (blk_cell HS2.out.1.box 2).trans rfl
      have c3 : V2.cell? ⟨g, 3, none⟩ = some (.int .i64 0) := (blk_cell HS2.out.1.box 3).trans rfl
      clear HAK h0
      go_wp2
      go_quiet (fail)
      go_wp2
      go_ret2
      rw [HX.out]
      exact ⟨_, rfl, ⟨rfl, .inl ⟨rfl, rfl⟩⟩, pw_below_drewN HS2.out.2 _⟩
  · have h2 : ¬ (na : Int) ≤ k := by omega
    go_quiet (fail)
    have HS2 : Aside0 (SB (V.drewN nq) g _ _ _ _ _ _ _ _ (.slice none 0 0) 0 [] ∧ Below w2.heap.size w2 (V.drewN nq)) := ⟨HSB.out.below (below_drewN (Below.refl _ _) nq), pw_below_drewN HBE.out nq⟩
    clear c0 c1 HSB HBE
    generalize V.drewN nq = V2 at HS2 ⊢
    by_cases h0 : 0 < k
    · have hk0 : (0 : Int) < k := by omega
      have HAK2 := Aside0.mk (HAK.out h0 V2 HS2.out.1)
      obtain ⟨X, hX⟩ : ∃ X, fnT a b k = X := ⟨_, rfl⟩
      rw [hX] at HAK2
      have HXX := Aside0.mk hX
      clear HAK hX
      go_wp2_with fail
      refine HAK2.out.mono ?_
      rintro e w5 ⟨rfl, ⟨fv, hs5, _⟩, hc5⟩
      obtain ⟨A5, cc5, rfl, _, _⟩ := own_nums hs5.row
      have HS5 : Aside0 (w5.ownsRow w2.heap.size 3 1 (.slice A5 X.1.length cc5) X.1.length (nums .i64 X.1) ∧ Below w2.heap.size w2 w5) := ⟨own_le hs5.row (by have := HGG.out; omega), Ch.onto HS2.out.2 hc5 HS2.out.2.size (fun i e => e.elim (fun e => by have := HGG.out; omega) (fun e => by cases e))⟩
      have c2 : w5.cell? ⟨g, 2, none⟩ = some (.slice A5 X.1.length cc5) := (blk_cell hs5.box 2).trans rfl
      have c3 : w5.cell? ⟨g, 3, none⟩ = some (.int .i64 (X.2 : Int)) := (blk_cell hs5.box 3).trans rfl
      clear hs5 hc5 HAK2 HS2
      go_wp2
      go_quiet (fail)
      go_wp2
      go_ret2
      rw [HXX.out]
      exact ⟨_, rfl, HS5.out.1, pw_below_drewN HS5.out.2 _⟩
    · have hk0 : ¬ (0 : Int) < k := by omega
      have HX : Aside0 (fnT a b k = ([], 0)) := ⟨by unfold fnT; rw [if_pos (by omega)]⟩
      have c2 : V2.cell? ⟨g, 2, none⟩ = some (.slice none 0 0) := (blk_cell HS2.out.1.box 2).trans rfl
      have c3 : V2.cell? ⟨g, 3, none⟩ = some (.int .i64 0) := (blk_cell HS2.out.1.box 3).trans rfl
      clear HAK h0
      go_wp2
      go_quiet (fail)
      go_wp2
      go_ret2
      rw [HX.out]
      exact ⟨_, rfl, ⟨rfl, .inl ⟨rfl, rfl⟩⟩, pw_below_drewN HS2.out.2 _⟩
end Go.Proofs.Ytfijbhacobjjgaf
