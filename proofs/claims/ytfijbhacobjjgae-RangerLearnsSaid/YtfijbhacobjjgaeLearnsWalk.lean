/- RangerLearns: the walk. -/
import Derived.Test.YtfijbhacobjjgaeProg
import Derived.Test.YtfijbhacobjjgaeVals
import Derived.Test.YtfijbhacobjjgaeWLast
import Derived.Test.YtfijbhacobjjgaeWMore
import Derived.RegionTactic
import Derived.ChangeAlike
import Derived.BigRegion
import Derived.WalkLawsBesides
import Derived.WalkSpells
import Derived.Deep.LoopGhost
import Derived.Deep.QuietTactic
import Derived.BigQuiet
import Derived.OwnWalk
import Derived.Test.YtfijbhacobjjgaeAwakeA
import Derived.Test.YtfijbhacobjjgaeOpen
namespace Go.Proofs.Ytfijbhacobjjgae
open Go.RowKit Go.Proofs.YtfijbhacobjjgaeW.PrintWords Go.Proofs.YtfijbhacobjjgaeW.PrintLast Go.Proofs.YtfijbhacobjjgaeW.PrintMore Go.Proofs.Ytfijbhacobjjgae.Fr
set_option linter.unusedVariables false
set_option linter.unusedSimpArgs false
attribute [local go_sem] max2_int min2_int max_two min_two

open Pl
theorem and1 (y : Int) : bits .and .i64 y 1 = y % 2 := by
  have h : bits .and .i64 y 1 = IntKind.i64.wrap (((BitVec.ofInt 64 y) &&& (BitVec.ofInt 64 1)).toNat : Int) := rfl
  rw [h, BitVec.toNat_and, BitVec.toNat_ofInt, show (BitVec.ofInt 64 1).toNat = 1 by decide, Nat.and_one_is_mod, IntKind.wrap_i64]
  have e : ((2 ^ 64 : Nat) : Int) = 18446744073709551616 := by decide
  rw [e]
  omega
structure LW (w0 w : World) (gm gc : Nat) (s : Cs) : Prop where
  mod : Blk w gm 66 (Value.int .i64) s.c
  box : CB w gc s.l s.h s.c
  bel : Below w0.heap.size w0 w
  lo : w0.heap.size ≤ gm ∧ gm < gc
theorem LW.below {w0 w w1 : World} {gm gc : Nat} {s : Cs} (x : LW w0 w gm gc s) (hb : Below w.heap.size w w1) : LW w0 w1 gm gc s := ⟨x.mod.below hb, Blk.below x.box hb, below_step x.bel hb, x.lo⟩
theorem LW.drawn {w0 w : World} {gm gc : Nat} {s : Cs} (x : LW w0 w gm gc s) (n : Nat) : LW w0 (w.drewN n) gm gc s := ⟨x.mod, x.box, pw_below_drewN x.bel n, x.lo⟩
set_option maxRecDepth 100000 in
set_option maxHeartbeats 2000000 in
theorem learns_walk (A : Option Addr) (len cap : Nat) (xs : List (Int × Int)) (T : ByteArray) (hT : T.size ≤ 140737488351232) (w0 : World) (hcap : len ≤ cap) (hC : int2.C w0 A len xs) (hwf : ∀ p ∈ xs, (Lit.int .i64 p.1).wf = true ∧ (Lit.int .i64 p.2).wf = true) :
    Calls Try.prog 5 #[.slice A len cap, .string T] w0 fun e w' => e = .returned (.bool true) ∧ Below w0.heap.size w0 w' := by
  have hlm : len ≤ 9223372036854775807 := hC.2.1
  have HRD : Aside0 (∀ k, k < len → ∃ (ad : Addr) (x y : Int), A = some ad ∧ w0.cell? (ad.add (k * 2)) = some (.int .i64 x) ∧ w0.cell? (ad.add (k * 2 + 1)) = some (.int .i64 y)) := ⟨fun k hk => by
    obtain ⟨ad, he, hall⟩ := hC.2.2 (by omega)
    have hkl : k < xs.length := by rw [hC.1]; exact hk
    obtain ⟨c, _, hK, hcell⟩ := hall k _ (List.getElem?_eq_getElem hkl)
    have hK' : c = [.int .i64 (xs[k]).1, .int .i64 (xs[k]).2] := hK
    subst hK'
    exact ⟨ad, (xs[k]).1, (xs[k]).2, he, hcell 0 _ rfl, hcell 1 _ rfl⟩⟩
  clear hC hwf
  have HAW := Aside0.mk awake_any
  by_cases hlen : 300 < len ∨ 300 < T.size
  · have hd : (decide ((300 : Int) < (len : Int)) = true) ∨ (decide ((300 : Int) < (len : Int)) = false ∧ decide ((300 : Int) < (T.size : Int)) = true) := by
      by_cases h : 300 < len
      · exact .inl (decide_eq_true (by omega))
      · exact .inr ⟨decide_eq_false (by omega), decide_eq_true (by omega)⟩
    clear hlen
    rcases hd with hd | ⟨hd, hd2⟩
    all_goals
      go_enter Try.func5, Try.ntmps5
      go_wp2_with fail
      refine (HAW.out _).mono ?_
      rintro e w1 ⟨rfl, hb⟩
      have HB := Aside0.mk hb
      clear hb
      go_wp2
      go_ret
      exact ⟨rfl, HB.out⟩
  have hd1 : decide ((300 : Int) < (len : Int)) = false := decide_eq_false (by omega)
  have hd2 : decide ((300 : Int) < (T.size : Int)) = false := decide_eq_false (by omega)
  have hT300 : T.size ≤ 300 := by omega
  have hl300 : len ≤ 300 := by omega
  clear hlen
  go_enter Try.func5, Try.ntmps5
  go_wp2_with fail
  refine (HAW.out _).mono ?_
  rintro e w1 ⟨rfl, hb1⟩
  go_wp2_with fail
  refine (new_any _).mono ?_
  rintro e w2 ⟨gm, rfl, hgm, hm2, hb2⟩
  have HW2 : Aside0 (Blk w2 gm 66 (Value.int .i64) c0.c ∧ Below w0.heap.size w0 w2 ∧ w0.heap.size ≤ gm ∧ gm < w2.heap.size) := ⟨hm2, below_step hb1 hb2, Nat.le_trans hb1.size hgm, hm2.lt⟩
  clear hgm hm2 hb1 hb2
  go_wp2_with fail
  refine (rnew_any _).mono ?_
  rintro e w3 ⟨gc, rfl, hgc, hc3, hb3⟩
  have HL0 : Aside0 (LW w0 w3 gm gc c0) := ⟨⟨HW2.out.1.below hb3, hc3, below_step HW2.out.2.1 hb3, HW2.out.2.2.1, by have := HW2.out.2.2.2; omega⟩⟩
  clear hgc hc3 hb3 HW2
  go_wp2
  go_loopg [28] len (fun gk x28 wr => ∃ (k : Nat) (s : Cs), x28 = .int .i64 k ∧ Aside0 (k + gk = len ∧ OkS s ∧ LW w0 wr gm gc s))
  case atStart => exact ⟨0, c0, rfl, ⟨Nat.zero_add _, c0_ok, HL0.out⟩⟩
  case round =>
    clear HL0
    obtain ⟨k, s, rfl, HI⟩ := hrel
    by_cases hlt : k < len
    · obtain ⟨ad, x, y, rfl, hc0, hc1⟩ := HRD.out k hlt
      have hc2 := pw_cell_below HI.out.2.2.bel hc0
      have hc3 := pw_cell_below HI.out.2.2.bel hc1
      rw [← add_add, cell_off _ (by decide)] at hc3
      clear hc0 hc1
      obtain ⟨b, hb⟩ : ∃ b, decide (y % 2 = 1) = b := ⟨_, rfl⟩
      have hand : bits .and .i64 y 1 = bv b := by
        rw [and1, ← hb]
        unfold bv
        by_cases h : y % 2 = 1
        · rw [decide_eq_true h, h]; rfl
        · rw [decide_eq_false h]; show y % 2 = 0; omega
      have hbe : (bv b == 1) = b := by cases b <;> rfl
      obtain ⟨B, hB⟩ : ∃ B, bv b = B := ⟨_, rfl⟩
      have HBV := Aside0.mk hB
      rw [hB] at hand hbe
      clear hb hB
      have hk1 : (k : Int) < len := by omega
      by_cases hok : 1 ≤ x ∧ x ≤ 255
      · obtain ⟨n, rfl⟩ := Int.eq_ofNat_of_zero_le (show 0 ≤ x by omega)
        have hn1 : 1 ≤ n := by omega
        have hn2 : n < 256 := by omega
        have hn3 : (1 : Int) ≤ (n : Int) := by omega
        have hn4 : (n : Int) ≤ 255 := by omega
        have HO := Aside0.mk HI.out.2.1
        have HLN : Aside0 (∀ w : World, Blk w gm 66 (Value.int .i64) s.c → Calls Try.prog 14 #[.pointer (some ⟨gm, 0, none⟩), .int .i64 n, .bool b] w fun e w' => e = .returned (.bool true) ∧ Blk w' gm 66 (Value.int .i64) (lrn s.c n b) ∧ Ch (fun i => i = gm) w w') := ⟨fun w hm => learn_yes gm n s.c b hn1 hn2 HO.out.2.2.2.2 w hm⟩
        have HPT : Aside0 (∀ w : World, CB w gc s.l s.h s.c → Calls Try.prog 15 #[.pointer (some ⟨gc, 0, none⟩), .int .i64 n, .int .i64 B] w (RPost gc (put s n b) (out s n b) w)) := ⟨fun w h => by have := refput_any gc n s b HO.out hn2 w h; rwa [HBV.out] at this⟩
        have hpo := put_ok HO.out hn2 b
        have hpc : (put s n b).c = lrn s.c n b := rfl
        have hq := hpo.2.2.2.2.2 n hn2
        have HQL : Aside0 (n < (put s n b).c.length) := ⟨by rw [hpo.2.2.2.2.1]; exact hn2⟩
        have HCH : Aside0 (∀ w : World, Blk w gm 66 (Value.int .i64) (put s n b).c → Calls Try.prog 16 #[.pointer (some ⟨gm, 0, none⟩), .int .i64 n] w fun e w' => e = .returned (.int .i64 ((put s n b).c.getD n 0)) ∧ w' = w) := ⟨fun w hm => chance_yes gm n _ hn1 hn2 w hm hpo.2.2.2.2.1⟩
        rw [← hpc] at HLN
        have HPO := Aside0.mk hpo
        obtain ⟨P, hP⟩ : ∃ P, put s n b = P := ⟨_, rfl⟩
        rw [hP] at HLN HPT HPO hq HQL HCH
        obtain ⟨q, hqe⟩ : ∃ q, P.c.getD n 0 = q := ⟨_, rfl⟩
        have HQE := Aside0.mk hqe
        rw [hqe] at hq HCH
        obtain ⟨hqa, hqb⟩ := hq
        clear hP hqe hpo hpc HBV hok
        go_wp2
        have HT : Aside0 (LW w0 (wr.alloc (.cells #[.int .i64 (n : Int), .int .i64 y] 34)) gm gc s) := ⟨HI.out.2.2.below (below_alloc (Below.refl _ _) _)⟩
        have HP : Aside0 ((wr.alloc (.cells #[.int .i64 (n : Int), .int .i64 y] 34)).heap[wr.heap.size]? = some (.cells #[.int .i64 (n : Int), .int .i64 y] 34 (0, 0))) := ⟨blk_new wr _⟩
        generalize wr.alloc (.cells #[.int .i64 (n : Int), .int .i64 y] 34) = V at HT HP ⊢
        generalize wr.heap.size = gx at HT HP ⊢
        have p0 : V.cell? ⟨gx, 0, none⟩ = some (.int .i64 (n : Int)) := (blk_cell HP.out 0).trans rfl
        have p1 : V.cell? ⟨gx, 1, none⟩ = some (.int .i64 y) := (blk_cell HP.out 1).trans rfl
        clear hc2 hc3
        go_quiet (fail)
        clear p0 p1 hand
        have HT2 := Aside0.mk (HT.out.drawn nq)
        clear HT HP
        generalize V.drewN nq = V2 at HT2 ⊢
        go_wp2_with fail
        refine (HLN.out _ HT2.out.mod).mono ?_
        rintro e w4 ⟨rfl, hm4, hc4⟩
        have HT4 : Aside0 (Blk w4 gm 66 (Value.int .i64) P.c ∧ CB w4 gc s.l s.h s.c ∧ Below w0.heap.size w0 w4 ∧ w0.heap.size ≤ gm ∧ gm < gc) := ⟨hm4, Blk.ch HT2.out.box hc4 (by have := HT2.out.lo; omega), Ch.onto HT2.out.bel hc4 HT2.out.bel.size (fun i e => by have := HT2.out.lo; omega), HT2.out.lo⟩
        clear hm4 hc4 HT2 HLN
        go_wp2_with fail
        refine (HPT.out _ HT4.out.2.1).mono ?_
        rintro e w5 ⟨v5, rfl, hr5, hb5, hc5⟩
        have HT5 : Aside0 (LW w0 w5 gm gc P) := ⟨⟨HT4.out.1.ch hc5 (by have := HT4.out.2.2.2; omega), hb5, Ch.onto HT4.out.2.2.1 hc5 HT4.out.2.2.1.size (fun i e => by have := HT4.out.2.2.2; omega), HT4.out.2.2.2⟩⟩
        have k2 : w5.cell? ⟨gc, 2 + n, none⟩ = some (.int .i64 q) := by
          have := HT5.out.box.get HQL.out
          rwa [HQE.out] at this
        clear hr5 hb5 hc5 HT4 HPT
        go_wp2_with fail
        refine (HCH.out _ HT5.out.mod).mono ?_
        rintro e w6 ⟨rfl, rfl⟩
        go_wp2
        go_roundg (gk - 1)
        case measure => have := HI.out.1; omega
        case rel => exact ⟨k + 1, P, by go_num, ⟨by have := HI.out.1; omega, HPO.out, HT5.out⟩⟩
      · have HLN : Aside0 (∀ w : World, Calls Try.prog 14 #[.pointer (some ⟨gm, 0, none⟩), .int .i64 x, .bool b] w fun e w' => e = .returned (.bool false) ∧ w' = w) := ⟨fun w => learn_no _ x b (.inr ⟨gm, rfl⟩) (.inl (by omega)) w⟩
        have HCH : Aside0 (∀ w : World, Calls Try.prog 16 #[.pointer (some ⟨gm, 0, none⟩), .int .i64 x] w fun e w' => e = .returned (.int .i64 0) ∧ w' = w) := ⟨fun w => chance_no _ x (.inr ⟨gm, rfl⟩) (.inl (by omega)) w⟩
        have hd : (¬ 1 ≤ x) ∨ (1 ≤ x ∧ ¬ x ≤ 255) := by omega
        clear hok HBV
        rcases hd with hd | ⟨hd, hd3⟩
        all_goals
          go_wp2
          have HT : Aside0 (LW w0 (wr.alloc (.cells #[.int .i64 x, .int .i64 y] 34)) gm gc s) := ⟨HI.out.2.2.below (below_alloc (Below.refl _ _) _)⟩
          have HP : Aside0 ((wr.alloc (.cells #[.int .i64 x, .int .i64 y] 34)).heap[wr.heap.size]? = some (.cells #[.int .i64 x, .int .i64 y] 34 (0, 0))) := ⟨blk_new wr _⟩
          generalize wr.alloc (.cells #[.int .i64 x, .int .i64 y] 34) = V at HT HP ⊢
          generalize wr.heap.size = gx at HT HP ⊢
          have p0 : V.cell? ⟨gx, 0, none⟩ = some (.int .i64 x) := (blk_cell HP.out 0).trans rfl
          have p1 : V.cell? ⟨gx, 1, none⟩ = some (.int .i64 y) := (blk_cell HP.out 1).trans rfl
          clear hc2 hc3
          go_quiet (fail)
          clear p0 p1 hand
          have HT2 := Aside0.mk (HT.out.drawn nq)
          clear HT HP
          generalize V.drewN nq = V2 at HT2 ⊢
          go_wp2_with fail
          refine (HLN.out _).mono ?_
          rintro e w4 ⟨rfl, rfl⟩
          go_wp2_with fail
          refine (HCH.out _).mono ?_
          rintro e w5 ⟨rfl, rfl⟩
          go_wp2
          go_roundg (gk - 1)
          case measure => have := HI.out.1; omega
          case rel => exact ⟨k + 1, s, by go_num, ⟨by have := HI.out.1; omega, HI.out.2.1, HT2.out⟩⟩
    · have hk1 : ¬ (k : Int) < len := by omega
      have HLN : Aside0 (∀ w : World, Calls Try.prog 14 #[.pointer none, .int .i64 1, .bool true] w fun e w' => e = .returned (.bool false) ∧ w' = w) := ⟨fun w => learn_no none 1 true (.inl rfl) (.inr rfl) w⟩
      have HCH : Aside0 (∀ w : World, Calls Try.prog 16 #[.pointer none, .int .i64 1] w fun e w' => e = .returned (.int .i64 0) ∧ w' = w) := ⟨fun w => chance_no none 1 (.inl rfl) (.inr rfl) w⟩
      have hsz := fun w => size_any T (by omega) w
      have hcs := cd_size T
      obtain ⟨q, hq⟩ : ∃ q, (cd T).size = q := ⟨_, rfl⟩
      rw [hq] at hsz hcs
      obtain ⟨hcs1, hcs2⟩ := hcs
      have hcs3 : decide ((q : Int) ≤ 32 * (T.size : Int) + 4) = true := decide_eq_true (by omega)
      have HSZ := Aside0.mk hsz
      have HB := Aside0.mk HI.out.2.2.bel
      clear hsz hq HI HRD
      go_wp2_with fail
      refine (HLN.out _).mono ?_
      rintro e w4 ⟨rfl, rfl⟩
      go_wp2_with fail
      refine (HCH.out _).mono ?_
      rintro e w5 ⟨rfl, rfl⟩
      go_wp2_with fail
      refine (HSZ.out _).mono ?_
      rintro e w6 ⟨rfl, hb6⟩
      go_wp2_with fail
      refine (HSZ.out _).mono ?_
      rintro e w7 ⟨rfl, hb7⟩
      have HB7 := Aside0.mk (below_step (below_step HB.out hb6) hb7)
      clear hb6 hb7
      go_wp2
      go_ret
      exact ⟨rfl, HB7.out⟩
end Go.Proofs.Ytfijbhacobjjgae
