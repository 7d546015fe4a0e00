/- The choices from the end on: the program's. -/
import Derived.Test.YtfijbhacobjjgadProg
import Derived.Test.YtfijbhacobjjgadVals
import Derived.Test.YtfijbhacobjjgadWLast
import Derived.Test.YtfijbhacobjjgadWMore
import Derived.RegionTactic
import Derived.ChangeAlike
import Derived.BigRegion
import Derived.WalkLawsBesides
import Derived.WalkSpells
import Derived.Deep.LoopGhost
import Derived.Deep.QuietTactic
import Derived.BigQuiet
import Derived.OwnWalk
import Derived.Test.YtfijbhacobjjgadChoiceP
namespace Go.Proofs.Ytfijbhacobjjgad
open Go.RowKit Go.Proofs.YtfijbhacobjjgadW.PrintWords Go.Proofs.YtfijbhacobjjgadW.PrintLast Go.Proofs.YtfijbhacobjjgadW.PrintMore Go.Proofs.Ytfijbhacobjjgad.Fr
set_option linter.unusedVariables false
set_option linter.unusedSimpArgs false
attribute [local go_sem] max2_int min2_int max_two min_two

open Pl
theorem info44 : (Try.prog.info? 44).map (fun i => (i.zero, i.size, i.bytes)) = some (some (.agg #[.int .i64 0, .int .i64 0, .int .i64 0]), 3, 24) := by kernel_rfl
theorem made3 (m : Nat) : madeCells #[.int .i64 0, .int .i64 0, .int .i64 0] (m * 3) = vals (Value.int .i64) (flat (List.replicate m zc)) := by
  rw [flat_zero, ← vals_made]
  simp only [madeCells]
  apply Array.ext'
  simp only [Array.toList_map, Array.toList_range, Nat.mul_comm 3 m]
  apply List.map_congr_left
  intro i _
  have : i % 3 < 3 := Nat.mod_lt _ (by decide)
  have h1 : i % (#[Value.int .i64 0, Value.int .i64 0, Value.int .i64 0] : Array Value).size = i % 3 := rfl
  have h2 : i % (#[Value.int .i64 0] : Array Value).size = 0 := Nat.mod_one i
  rw [h1, h2]
  rcases (by omega : i % 3 = 0 ∨ i % 3 = 1 ∨ i % 3 = 2) with e | e | e <;> rw [e] <;> rfl
theorem sto3 {w0 W : World} {g gb c1 m k : Nat} {A : Option Addr} {p q r x y z : Int} {L : List Int} {xs : List Value} (h : Blk W gb k (Value.int .i64) [p, q, r] ∧ Blk W g k (Value.int .i64) L ∧ W.ownsRow (gb + 1) 3 1 (.slice A m c1) m xs ∧ Below g w0 W) (hg : g < gb) :
    Blk (((W.setCell ⟨gb, 0, none⟩ (.int .i64 x)).setCell ⟨gb, 1, none⟩ (.int .i64 y)).setCell ⟨gb, 2, none⟩ (.int .i64 z)) gb k (Value.int .i64) [x, y, z] ∧ Blk (((W.setCell ⟨gb, 0, none⟩ (.int .i64 x)).setCell ⟨gb, 1, none⟩ (.int .i64 y)).setCell ⟨gb, 2, none⟩ (.int .i64 z)) g k (Value.int .i64) L ∧ (((W.setCell ⟨gb, 0, none⟩ (.int .i64 x)).setCell ⟨gb, 1, none⟩ (.int .i64 y)).setCell ⟨gb, 2, none⟩ (.int .i64 z)).ownsRow (gb + 1) 3 1 (.slice A m c1) m xs ∧ Below g w0 (((W.setCell ⟨gb, 0, none⟩ (.int .i64 x)).setCell ⟨gb, 1, none⟩ (.int .i64 y)).setCell ⟨gb, 2, none⟩ (.int .i64 z)) := by
  obtain ⟨h1, h2, h3, h4⟩ := h
  have hne : some gb ≠ (Value.slice A m c1).ownBlock := fun e => by have := own_blk h3 gb e.symm; omega
  have hgg : g ≠ gb := by omega
  exact ⟨((h1.put 0 x).put 1 y).put 2 z, ((h2.far hgg 0 _).far hgg 1 _).far hgg 2 _, own_setCell (own_setCell (own_setCell h3 hne _) hne _) hne _, ((h4.setCell (by show g ≤ gb; omega) _).setCell (by show g ≤ gb; omega) _).setCell (by show g ≤ gb; omega) _⟩
theorem dr3 {w0 W : World} {g gb c1 m k : Nat} {A : Option Addr} {l L : List Int} {xs : List Value} (h : Blk W gb k (Value.int .i64) l ∧ Blk W g k (Value.int .i64) L ∧ W.ownsRow (gb + 1) 3 1 (.slice A m c1) m xs ∧ Below g w0 W) (q : Nat) :
    Blk (W.drewN q) gb k (Value.int .i64) l ∧ Blk (W.drewN q) g k (Value.int .i64) L ∧ (W.drewN q).ownsRow (gb + 1) 3 1 (.slice A m c1) m xs ∧ Below g w0 (W.drewN q) := ⟨h.1, h.2.1, h.2.2.1, pw_below_drewN h.2.2.2 q⟩
/-- The choices that a call answered. -/
def ChPost (C : List Chc) (w : World) (e : Ending) (w' : World) : Prop := ∃ g, e = .returned (.slice (some ⟨g, 0, none⟩) C.length C.length) ∧ Blk w' g 44 (Value.int .i64) (flat C) ∧ w.heap.size ≤ g ∧ Below w.heap.size w w'
set_option maxRecDepth 100000 in
set_option maxHeartbeats 4000000 in
theorem choices_any (D X : ByteArray) (hD : D.size ≤ 1000) (hX : X.size ≤ 1000) (w0 : World) : Calls Try.prog 17 #[.string D, .string X] w0 (ChPost (tb (D ++ X) D.size X.size X.size) w0) := by
  have hTs : (D ++ X).size = D.size + X.size := ByteArray.size_append ..
  obtain ⟨T, hT⟩ : ∃ T, D ++ X = T := ⟨_, rfl⟩
  obtain ⟨d, hd⟩ : ∃ d, D.size = d := ⟨_, rfl⟩
  obtain ⟨n, hn⟩ : ∃ n, X.size = n := ⟨_, rfl⟩
  rw [hT] at hTs ⊢
  have HF := Aside0.mk (And.intro hTs (And.intro hT (And.intro hd hn)))
  have hmk : ∀ W : World, (Instr.makeSlice 39 (.int .i64 ((n : Int) + 1)) (.int .i64 ((n : Int) + 1))).run Try.prog W = .ok (.slice (some ⟨W.heap.size, 0, none⟩) (n + 1) (n + 1)) (W.alloc (.cells (vals (Value.int .i64) (flat (ch T d n 0))) 44)) := by
    intro W
    obtain ⟨i0, hi, hz0, hz1, hz2⟩ := info_parts info44
    have := run_make (P := Try.prog) W 39 44 i0 _ Try.underlying39 hi hz0 .i64 .i64 ((n : Int) + 1) ((n : Int) + 1) (by omega) (by omega) (by rw [hz2]; omega) (by omega)
    rw [hz1, show ((n : Int) + 1).toNat = n + 1 by omega] at this
    rw [this, ch_zero, ← made3]
    rfl
  rw [hd] at hD
  rw [hn] at hX
  rw [hd, hn]
  rw [hd, hn] at hTs
  clear hT hTs
  go_enter Try.func17, Try.ntmps17
  go_wp2
  have HB0 := Aside0.mk (Blk.lit w0 44 (Value.int .i64) (flat (ch T d n 0)))
  have HBE0 : Aside0 (Below w0.heap.size w0 (w0.alloc (.cells (vals (Value.int .i64) (flat (ch T d n 0))) 44))) := ⟨below_alloc (Below.refl _ _) _⟩
  rw [HF.out.2.1]
  generalize w0.alloc (.cells (vals (Value.int .i64) (flat (ch T d n 0))) 44) = W at HB0 HBE0 ⊢
  obtain ⟨g, hg⟩ : ∃ g, w0.heap.size = g := ⟨_, rfl⟩
  rw [hg] at HB0 HBE0
  have HG := Aside0.mk hg
  rw [hg]
  clear hg hmk
  go_loopg [7] n (fun gk x wr => ∃ r : Nat, Aside0 (r + gk = n) ∧ x = .int .i64 ((n : Int) - (r : Int) - 1) ∧ Aside0 (Blk wr g 44 (Value.int .i64) (flat (ch T d n r)) ∧ Below g w0 wr))
  case atStart => exact ⟨0, ⟨by omega⟩, by simp, ⟨HB0.out, HBE0.out⟩⟩
  case round =>
    clear HB0 HBE0
    obtain ⟨r, HR, rfl, HB⟩ := hrel
    by_cases hlt : r < n
    · obtain ⟨a, ha⟩ : ∃ a, n - (r + 1) = a := ⟨_, rfl⟩
      have hai : (n : Int) - (r : Int) - 1 = (a : Int) := by omega
      have han : a + r + 1 = n := by omega
      rw [hai]
      have HA := Aside0.mk (And.intro ha hai)
      have hcl := ch_len T d n r (by omega)
      have hg2 := (flat_get (ch T d n r) (a + 1) (by omega)).2.2
      rw [ch_get T d n r (a + 1) (by omega), show a + 1 - (n - r) = 0 by omega] at hg2
      have hin := tb_in T d n r
      have c2 := HB.out.1.cell ((a + 1) * 3 + 2) 0 (by rw [flat_len, hcl]; omega)
      rw [hg2] at c2
      have HPZ := Aside0.mk (pk_zero T d n r)
      have HPL := Aside0.mk (pk_last T d n r)
      have HPS := Aside0.mk (pk_succ T d n r)
      have hpin := pk_in T d n r hin
      rw [ha] at HPL HPS
      have HTS : Aside0 (T.size = d + n) := ⟨by have := HF.out; omega⟩
      have HNR := near_any T (d + a) (by have := HTS.out; omega) (by have := HTS.out; omega)
      have HNL := nlen_le T (d + a) (by have := HTS.out; omega) (d + a)
      have hfl : nl T (d + a) (d + a) (nlen (so T (d + a)) (d + a)) = (nearL (Sx T d a) (d + a) (nlen (Sx T d a) (d + a))).map fun n : Nat => (n : Int) := rfl
      change nlen (Sx T d a) (d + a) ≤ _ at HNL
      rw [hfl] at HNR
      have HNG : Aside0 (∀ j, j < nlen (Sx T d a) (d + a) → ((nearL (Sx T d a) (d + a) (nlen (Sx T d a) (d + a))).map fun n : Nat => (n : Int)).getD j 0 = (nearF (Sx T d a) (d + a) j : Int)) := ⟨fun j hj => by
        have := nearL_get (Sx T d a) (d + a) (nlen (Sx T d a) (d + a)) j hj
        rw [← this]
        simp only [List.getD_eq_getElem?_getD, List.getElem?_map]
        cases (nearL (Sx T d a) (d + a) (nlen (Sx T d a) (d + a)))[j]? <;> rfl⟩
      have HNE : Aside0 (((nearL (Sx T d a) (d + a) (nlen (Sx T d a) (d + a))).map fun n : Nat => (n : Int)).length = nlen (Sx T d a) (d + a)) := ⟨by rw [List.length_map, nearL_length]⟩
      have HLE : Aside0 (∀ j, nearF (Sx T d a) (d + a) j ≠ 0 → 3 ≤ j ∧ a + j ≤ n) := ⟨fun j h => near_le T d n a (d + a) j HTS.out (by omega) h⟩
      have HFB : Aside0 (∀ j, nearF (Sx T d a) (d + a) j ≤ d + a) := ⟨nearF_le _ _⟩
      obtain ⟨b0, hb0⟩ : ∃ b0, ((tb T d n r).getD 0 zc).2.2 = b0 := ⟨_, rfl⟩
      have hb1 := hin 0
      rw [hb0] at hb1 c2 HPZ
      obtain ⟨nf, hnf⟩ : ∃ nf : Nat → Nat, nearF (Sx T d a) (d + a) = nf := ⟨_, rfl⟩
      rw [hnf] at HPS HNG HLE HFB
      obtain ⟨m, hm⟩ : ∃ m, nlen (Sx T d a) (d + a) = m := ⟨_, rfl⟩
      rw [hm] at HPL HNR HNL HNG HNE
      obtain ⟨xs, hxs⟩ : ∃ xs : List Int, ((nearL (Sx T d a) (d + a) m).map fun n : Nat => (n : Int)) = xs := ⟨_, rfl⟩
      rw [hxs] at HNR HNG HNE
      have HNR := Aside0.mk HNR
      have HIN := Aside0.mk hin
      have HPI := Aside0.mk hpin
      have HML : Aside0 (m ≤ T.size + 1) := ⟨HNL⟩
      have hm2 : m ≤ 2001 := by have := HTS.out; omega
      obtain ⟨hb2, hb3⟩ := hb1
      clear ha hai hcl hg2 hin hpin hfl HNL hb0 hnf hm hxs
      have HGL : Aside0 (g ≤ wr.heap.size) := ⟨by have := HB.out.2.size; rw [HG.out] at this; exact this⟩
      have HB2 : Aside0 (Below g w0 (wr.alloc (.cells #[.int .i64 0, .int .i64 0, .int .i64 (b0 + 8)] 44))) := ⟨below_then HB.out.2 HGL.out (below_alloc (Below.refl _ _) _)⟩
      have HBG : Aside0 (Blk (wr.alloc (.cells #[.int .i64 0, .int .i64 0, .int .i64 (b0 + 8)] 44)) g 44 (Value.int .i64) (flat (ch T d n r))) := ⟨HB.out.1.below (below_alloc (Below.refl _ _) _)⟩
      have HBC : Aside0 (Blk (wr.alloc (.cells #[.int .i64 0, .int .i64 0, .int .i64 (b0 + 8)] 44)) wr.heap.size 44 (Value.int .i64) [0, 0, b0 + 8]) := ⟨Blk.lit wr 44 (Value.int .i64) [0, 0, b0 + 8]⟩
      have hgb := HB.out.1.lt
      have HSB : Aside0 ((wr.alloc (.cells #[.int .i64 0, .int .i64 0, .int .i64 (b0 + 8)] 44)).heap.size = wr.heap.size + 1) := ⟨by simp⟩
      go_wp2_with fail
      rw [show (d : Int) + (a : Int) = ((d + a : Nat) : Int) by omega]
      clear c2 HB
      obtain ⟨gk1, rfl⟩ : ∃ g1 : Nat, g1 = gk := ⟨_, rfl⟩
      obtain ⟨wo, rfl⟩ : ∃ wo : World, wo = wr := ⟨_, rfl⟩
      generalize wo.alloc (.cells #[.int .i64 0, .int .i64 0, .int .i64 (b0 + 8)] 44) = W2 at HB2 HBG HBC HSB ⊢
      obtain ⟨gb, hgbe⟩ : ∃ gb, wo.heap.size = gb := ⟨_, rfl⟩
      rw [hgbe] at HBC HSB hgb HGL
      rw [hgbe]
      clear hgbe
      refine (HNR.out W2).mono ?_
      rintro e w1 ⟨v1, rfl, hown, hbel⟩
      obtain ⟨A1, c1, rfl, hc1, hr1⟩ := own_nums hown
      have HI0 : Aside0 (Blk w1 gb 44 (Value.int .i64) [0, 0, b0 + 8] ∧ Blk w1 g 44 (Value.int .i64) (flat (ch T d n r)) ∧ w1.ownsRow (gb + 1) 3 1 (.slice A1 xs.length c1) xs.length (nums .i64 xs) ∧ Below g w0 w1) := ⟨HBC.out.below hbel, HBG.out.below hbel, by rw [HSB.out] at hown; exact hown, below_then HB2.out (by rw [HSB.out]; omega) hbel⟩
      rw [HNE.out] at HI0
      rw [HNE.out]
      clear hown hbel hc1 hr1 HB2 HBG HBC HSB HNR
      go_wp2
      go_loopg [41] m (fun gk x wr => ∃ j : Nat, Aside0 (j + gk = m) ∧ x = .int .i64 j ∧ Aside0 (Blk wr gb 44 (Value.int .i64) [((pk T d n r j).1 : Int), ((pk T d n r j).2.1 : Int), (pk T d n r j).2.2] ∧ Blk wr g 44 (Value.int .i64) (flat (ch T d n r)) ∧ wr.ownsRow (gb + 1) 3 1 (.slice A1 m c1) m (nums .i64 xs) ∧ Below g w0 wr))
      case atStart => exact ⟨0, ⟨by omega⟩, rfl, ⟨by rw [HPZ.out]; exact HI0.out.1, HI0.out.2.1, HI0.out.2.2.1, HI0.out.2.2.2⟩⟩
      case round =>
        clear HI0
        obtain ⟨j, HJ, rfl, HI⟩ := hrel
        by_cases hj : j < m
        · have HRX : Aside0 (RdK .i64 wr A1 xs) := ⟨own_rdk (B := gb + 1) (n := m) (e := 3) (c := c1) (by rw [HNE.out]; exact HI.out.2.2.1)⟩
          obtain ⟨ad, rfl, hx⟩ := HRX.out j (by rw [HNE.out]; exact hj)
          rw [HNG.out j hj] at hx
          have HP1 := Aside0.mk (HPS.out j)
          have HF1 := HFB.out j
          have HL1 := Aside0.mk (HLE.out j)
          obtain ⟨f, hf⟩ : ∃ f, nf j = f := ⟨_, rfl⟩
          rw [hf] at hx HP1 HF1 HL1
          have hji : (j : Int) < (m : Int) := by omega
          clear hf
          by_cases h0 : f = 0
          · subst h0
            have HE : Aside0 (pk T d n r (j + 1) = pk T d n r j) := ⟨by rw [HP1.out, if_neg (fun h => h.1 rfl)]⟩
            go_wp2
            go_roundg (gk - 1)
            case measure => have := HJ.out; omega
            case rel => exact ⟨j + 1, ⟨by have := HJ.out; omega⟩, by go_num, ⟨by rw [HE.out]; exact HI.out.1, HI.out.2.1, HI.out.2.2.1, HI.out.2.2.2⟩⟩
          · have h1 := HL1.out h0
            have hne : ((f : Int) == 0) = false := by simpa using h0
            have hcl := ch_len T d n r (by omega)
            have hg3 := (flat_get (ch T d n r) (a + j) (by omega)).2.2
            rw [ch_get T d n r (a + j) (by omega), show a + j - (n - r) = j - 1 by omega] at hg3
            have c3 := HI.out.2.1.cell ((a + j) * 3 + 2) 0 (by rw [flat_len, hcl]; omega)
            rw [hg3] at c3
            have htj := HIN.out (j - 1)
            have hpj := HPI.out j
            have hst := stN_in j f
            have HS2 : Aside0 (∀ w, Calls Try.prog 22 #[.int .i64 j, .int .i64 f] w fun e w' => e = .returned (.int .i64 (stN j f)) ∧ w = w') := ⟨fun w => (step_any j f (by omega) (by omega) w).mono fun _ _ h => ⟨h.1, h.2.symm⟩⟩
            obtain ⟨tj, htje⟩ : ∃ tj, ((tb T d n r).getD (j - 1) zc).2.2 = tj := ⟨_, rfl⟩
            rw [htje] at htj c3 HP1
            obtain ⟨s, hse⟩ : ∃ s, stN j f = s := ⟨_, rfl⟩
            rw [hse] at hst HS2 HP1
            obtain ⟨p, hp⟩ : ∃ p, pk T d n r j = p := ⟨_, rfl⟩
            rw [hp] at hpj HP1 HI
            have c4 := HI.out.1.cell 2 0 (by simp)
            have c40 := HI.out.1.cell 0 0 (by simp)
            have c41 := HI.out.1.cell 1 0 (by simp)
            have fb := HI.out.1.free
            simp only [List.getD_cons_succ, List.getD_cons_zero] at c4 c40 c41
            obtain ⟨t1, t2⟩ := htj
            obtain ⟨s1, s2⟩ := hst
            obtain ⟨p1, p2⟩ := hpj
            have hq1 : (0 : Int) ≤ (a : Int) + (j : Int) := by omega
            have hq2 : (a : Int) + (j : Int) < (n : Int) + 1 := by omega
            have hq3 : IntKind.i64.wrap ((a : Int) + (j : Int)) = (a : Int) + (j : Int) := by rw [IntKind.wrap_i64]; omega
            have hq4 : ((a : Int) + (j : Int)).toNat = a + j := by omega
            have hq5 : IntKind.i64.wrap (s + tj) = s + tj := by rw [IntKind.wrap_i64]; omega
            clear hcl hg3 htje hse hp h0 h1
            go_wp2
            go_quiet ((go_at_call 22; exact q_same (HS2.out _)))
            clear hq1 hq2 hq3 hq4 hq5
            by_cases hlt2 : s + tj < p.2.2
            · have HE : Aside0 (pk T d n r (j + 1) = (j, f, s + tj)) := ⟨by rw [HP1.out, if_pos ⟨by intro e; subst e; simp at hne, hlt2⟩]⟩
              have HIX := HI.out
              clear HP1
              go_wp2
              go_roundg (gk - 1)
              case measure => have := HJ.out; omega
              case rel => exact ⟨j + 1, ⟨by have := HJ.out; omega⟩, by go_num, ⟨by rw [HE.out]; exact sto3 (dr3 HIX _) hgb⟩⟩
            · have HE : Aside0 (pk T d n r (j + 1) = p) := ⟨by rw [HP1.out, if_neg (fun h => hlt2 h.2)]⟩
              have HIX := HI.out
              clear HP1
              go_wp2
              go_roundg (gk - 1)
              case measure => have := HJ.out; omega
              case rel => exact ⟨j + 1, ⟨by have := HJ.out; omega⟩, by go_num, ⟨by rw [HE.out]; exact dr3 HIX _⟩⟩
        · obtain rfl : j = m := by have := HJ.out; omega
          have hcl := ch_len T d n r (by omega)
          have HST : Aside0 ((ch T d n r).set a (cx T d n r) = ch T d n (r + 1)) := ⟨by rw [← ch_set T d n r hlt, HA.out.1]⟩
          rw [HPL.out] at HI
          have HFS := Aside0.mk (flat_set (ch T d n r) a (cx T d n r))
          rw [HST.out] at HFS
          obtain ⟨q1, hq1⟩ : ∃ q1, ((cx T d n r).1 : Int) = q1 := ⟨_, rfl⟩
          obtain ⟨q2, hq2⟩ : ∃ q2, ((cx T d n r).2.1 : Int) = q2 := ⟨_, rfl⟩
          obtain ⟨q3, hq3⟩ : ∃ q3, (cx T d n r).2.2 = q3 := ⟨_, rfl⟩
          rw [hq1, hq2, hq3] at HI HFS
          have c0 := HI.out.1.cell 0 0 (by simp)
          have c1x := HI.out.1.cell 1 0 (by simp)
          have c2 := HI.out.1.cell 2 0 (by simp)
          simp only [List.getD_cons_succ, List.getD_cons_zero] at c0 c1x c2
          have e0 := HI.out.2.1.cell (a * 3) 0 (by rw [flat_len, hcl]; omega)
          have e1 := HI.out.2.1.cell (a * 3 + 1) 0 (by rw [flat_len, hcl]; omega)
          have e2 := HI.out.2.1.cell (a * 3 + 2) 0 (by rw [flat_len, hcl]; omega)
          have fb := HI.out.2.1.free
          clear hcl hq1 hq2 hq3
          go_wp2
          go_roundg (gk1 - 1)
          case measure => have := HR.out; omega
          case rel =>
            have hpt := ((HI.out.2.1.put (a * 3) q1).put (a * 3 + 1) q2).put (a * 3 + 2) q3
            rw [HFS.out] at hpt
            exact ⟨r + 1, ⟨by have := HR.out; omega⟩, by go_num, ⟨hpt, (((HI.out.2.2.2).setCell (Nat.le_refl _) _).setCell (Nat.le_refl _) _).setCell (Nat.le_refl _) _⟩⟩
    · obtain rfl : r = n := by have := HR.out; omega
      have hE := ch_full T d r
      have HE := Aside0.mk (And.intro hE (tb_len T d r r))
      clear hE
      go_wp2
      go_ret
      rw [HE.out.1] at HB
      refine ⟨g, ?_, HB.out.1, by rw [HG.out]; exact Nat.le_refl _, by rw [HG.out]; exact HB.out.2⟩
      rw [HE.out.2]
      rfl
end Go.Proofs.Ytfijbhacobjjgad
