/- The least cost: the document's. -/
import Derived.Test.YtfijbhacobjjgadProg
import Derived.Test.YtfijbhacobjjgadVals
import Derived.Test.YtfijbhacobjjgadWLast
import Derived.Test.YtfijbhacobjjgadWMore
import Derived.RegionTactic
import Derived.ChangeAlike
import Derived.BigRegion
import Derived.WalkLawsBesides
import Derived.WalkSpells
import Derived.Deep.LoopGhost
import Derived.Deep.QuietTactic
import Derived.BigQuiet
import Derived.OwnWalk
import Derived.Test.YtfijbhacobjjgadChoiceA
import Derived.Test.YtfijbhacobjjgadSteadyT
namespace Go.Proofs.Ytfijbhacobjjgad
open Go.RowKit Go.Proofs.YtfijbhacobjjgadW.PrintWords Go.Proofs.YtfijbhacobjjgadW.PrintLast Go.Proofs.YtfijbhacobjjgadW.PrintMore Go.Proofs.Ytfijbhacobjjgad.Fr
set_option linter.unusedVariables false
set_option linter.unusedSimpArgs false
attribute [local go_sem] max2_int min2_int max_two min_two

open Pl
section
variable (T : ByteArray) (d n : Nat)
def cs (r : Nat) : List Int := (ch T d n r).map (·.2.2)
theorem cs_len (r : Nat) (h : r ≤ n) : (cs T d n r).length = n + 1 := by unfold cs; rw [List.length_map, ch_len T d n r h]
theorem cs_zero : cs T d n 0 = List.replicate (n + 1) 0 := by unfold cs; rw [ch_zero]; simp [zc]
theorem cs_get (r i : Nat) (h : n - r ≤ i) : (cs T d n r).getD i 0 = ((tb T d n r).getD (i - (n - r)) zc).2.2 := by
  rw [← ch_get T d n r i h]
  unfold cs
  simp only [List.getD_eq_getElem?_getD, List.getElem?_map]
  cases (ch T d n r)[i]? <;> rfl
theorem cs_set (r : Nat) (h : r < n) : (cs T d n r).set (n - (r + 1)) (cx T d n r).2.2 = cs T d n (r + 1) := by
  unfold cs
  rw [← ch_set T d n r h, List.map_set]
/-- What the document has so far: k offsets; of one more, j lengths. -/
def ro (r k : Nat) : Int := rout stN (Sx T d (n - (r + 1))) (fun j => ((tb T d n r).getD (j - 1) zc).2.2) (((tb T d n r).getD 0 zc).2.2 + 8) k
def ri (r k j : Nat) : Int := rin stN (fun j => ((tb T d n r).getD (j - 1) zc).2.2) (k + 1) j (ro T d n r k)
theorem ro_zero (r : Nat) : ro T d n r 0 = ((tb T d n r).getD 0 zc).2.2 + 8 := rfl
theorem ro_succ (r k : Nat) : ro T d n r (k + 1) = ri T d n r k (Sx T d (n - (r + 1)) (k + 1) - 2) := rfl
theorem ri_zero (r k : Nat) : ri T d n r k 0 = ro T d n r k := rfl
theorem ri_succ (r k j : Nat) : ri T d n r k (j + 1) = min (ri T d n r k j) (stN (3 + j) (k + 1) + ((tb T d n r).getD (3 + j - 1) zc).2.2) := rfl
theorem ro_last (r : Nat) : ro T d n r (d + (n - (r + 1))) = (cx T d n r).2.2 := (pick_rout stN _ _ stN_mono _ _).symm
theorem ri_in (r k : Nat) (h : 0 ≤ ro T d n r k ∧ ro T d n r k ≤ 8 * r + 8) : ∀ j, 0 ≤ ri T d n r k j ∧ ri T d n r k j ≤ 8 * r + 8
  | 0 => h
  | j + 1 => by
    have ih := ri_in r k h j
    have h1 := tb_in T d n r (3 + j - 1)
    have h2 := stN_in (3 + j) (k + 1)
    rw [ri_succ]
    omega
theorem ro_in (r : Nat) : ∀ k, 0 ≤ ro T d n r k ∧ ro T d n r k ≤ 8 * r + 8
  | 0 => by have := tb_in T d n r 0; rw [ro_zero]; omega
  | k + 1 => by rw [ro_succ]; exact ri_in T d n r k (ro_in r k) _
end
theorem set_get (l : List Int) (a : Nat) (v : Int) (h : a < l.length) : (l.set a v).getD a 0 = v := by simp [List.getD_eq_getElem?_getD, h]
theorem set_other (l : List Int) (a i : Nat) (v : Int) (h : a ≠ i) : (l.set a v).getD i 0 = l.getD i 0 := by simp [List.getD_eq_getElem?_getD, List.getElem?_set, h]
set_option maxRecDepth 100000 in
set_option maxHeartbeats 4000000 in
theorem rleast_any (D X : ByteArray) (hD : D.size ≤ 1000) (hX : X.size ≤ 1000) (w0 : World) : Calls Try.prog 8 #[.string D, .string X] w0 fun e w' => e = .returned (.int .i64 ((tb (D ++ X) D.size X.size X.size).getD 0 zc).2.2) ∧ Below w0.heap.size w0 w' := by
  have hTs : (D ++ X).size = D.size + X.size := ByteArray.size_append ..
  obtain ⟨T, hT⟩ : ∃ T, D ++ X = T := ⟨_, rfl⟩
  obtain ⟨d, hd⟩ : ∃ d, D.size = d := ⟨_, rfl⟩
  obtain ⟨n, hn⟩ : ∃ n, X.size = n := ⟨_, rfl⟩
  rw [hT] at hTs ⊢
  have HF := Aside0.mk (And.intro hTs (And.intro hT (And.intro hd hn)))
  rw [hd] at hD
  rw [hn] at hX
  rw [hd, hn]
  rw [hd, hn] at hTs
  have HTS := Aside0.mk hTs
  have hmk := print_make (P := Try.prog) 29 3 .i64 8 Try.underlying29 info3 (by decide) (n + 1) (by omega)
  rw [show ((n + 1 : Nat) : Int) = (n : Int) + 1 by omega] at hmk
  clear hT hTs
  go_enter Try.func8, Try.ntmps8
  go_wp2
  have HB0 := Aside0.mk (Blk.make w0 3 (Value.int .i64) (n + 1) (0 : Int))
  rw [← cs_zero T d n] at HB0
  have HBE0 : Aside0 (Below w0.heap.size w0 (w0.alloc (.cells (madeCells #[Value.int .i64 0] (n + 1)) 3))) := ⟨below_alloc (Below.refl _ _) _⟩
  rw [HF.out.2.1]
  generalize w0.alloc (.cells (madeCells #[Value.int .i64 0] (n + 1)) 3) = W at HB0 HBE0 ⊢
  obtain ⟨g, hg⟩ : ∃ g, w0.heap.size = g := ⟨_, rfl⟩
  rw [hg] at HB0 HBE0
  have HG := Aside0.mk hg
  rw [hg]
  clear hg hmk
  go_loopg [7] n (fun gk x wr => ∃ r : Nat, Aside0 (r + gk = n) ∧ x = .int .i64 ((n : Int) - (r : Int) - 1) ∧ Aside0 (Blk wr g 3 (Value.int .i64) (cs T d n r) ∧ Below g w0 wr))
  case atStart => exact ⟨0, ⟨by omega⟩, by simp, ⟨HB0.out, HBE0.out⟩⟩
  case round =>
    clear HB0 HBE0
    obtain ⟨r, HR, rfl, HB⟩ := hrel
    by_cases hlt : r < n
    · obtain ⟨a, ha⟩ : ∃ a, n - (r + 1) = a := ⟨_, rfl⟩
      have hai : (n : Int) - (r : Int) - 1 = (a : Int) := by omega
      have han : a + r + 1 = n := by omega
      rw [hai]
      have HA := Aside0.mk (And.intro ha hai)
      have hcl := cs_len T d n r (by omega)
      have HCL := Aside0.mk hcl
      have hg1 := cs_get T d n r (a + 1) (by omega)
      rw [show a + 1 - (n - r) = 0 by omega] at hg1
      have c1 := HB.out.1.cell (a + 1) 0 (by omega)
      rw [hg1] at c1
      have c0 := HB.out.1.cell a 0 (by omega)
      have f0 := HB.out.1.free a
      have HRZ := Aside0.mk (ro_zero T d n r)
      have HRS := Aside0.mk (ro_succ T d n r)
      have HRL := Aside0.mk (ro_last T d n r)
      have HRI := Aside0.mk (ro_in T d n r)
      have HCS := Aside0.mk (cs_set T d n r hlt)
      rw [ha] at HRS HRL HCS
      have hb1 := tb_in T d n r 0
      obtain ⟨b0, hb0⟩ : ∃ b0, ((tb T d n r).getD 0 zc).2.2 = b0 := ⟨_, rfl⟩
      rw [hb0] at hb1 c1 HRZ
      obtain ⟨hb2, hb3⟩ := hb1
      clear ha hai hg1 hb0 hcl
      go_wp2
      have HI0 : Aside0 (Blk (wr.setCell ⟨g, a, none⟩ (.int .i64 (b0 + 8))) g 3 (Value.int .i64) ((cs T d n r).set a (ro T d n r 0)) ∧ Below g w0 (wr.setCell ⟨g, a, none⟩ (.int .i64 (b0 + 8)))) := ⟨by rw [HRZ.out]; exact HB.out.1.put a (b0 + 8), HB.out.2.setCell (Nat.le_refl _) _⟩
      clear c0 c1 f0 HB
      obtain ⟨gk1, rfl⟩ : ∃ g1 : Nat, g1 = gk := ⟨_, rfl⟩
      obtain ⟨wo, rfl⟩ : ∃ wo : World, wo = wr := ⟨_, rfl⟩
      generalize wo.setCell ⟨g, a, none⟩ (.int .i64 (b0 + 8)) = W2 at HI0 ⊢
      rw [show (d : Int) + (a : Int) = ((d + a : Nat) : Int) by omega]
      obtain ⟨h, hh⟩ : ∃ h, d + a = h := ⟨_, rfl⟩
      have HH := Aside0.mk hh
      rw [hh]
      have hhn : h ≤ 2000 := by omega
      clear hh
      go_loopg [9] h (fun gk x wr => ∃ k : Nat, Aside0 (k + gk = h) ∧ x = .int .i64 ((k : Int) + 1) ∧ Aside0 (Blk wr g 3 (Value.int .i64) ((cs T d n r).set a (ro T d n r k)) ∧ Below g w0 wr))
      case atStart => exact ⟨0, ⟨by omega⟩, rfl, ⟨HI0.out.1, HI0.out.2⟩⟩
      case round =>
        clear HI0
        obtain ⟨k, HK, rfl, HI⟩ := hrel
        by_cases hk : k < h
        · have hki : (k : Int) + 1 ≤ (h : Int) := by omega
          have HSA : Aside0 (∀ w, Calls Try.prog 20 #[.string T, .int .i64 ((h : Int) - ((k : Int) + 1)), .int .i64 h] w fun e w' => e = .returned (.int .i64 (Sx T d a (k + 1))) ∧ Drawn0 w w') := ⟨fun w => by
            have hT2 : T.size ≤ 1000000 := by have := HTS.out; omega
            have := rsame_any T ((h - (k + 1) : Nat) : Int) (h : Int) hT2 w
            rw [smI_nat T _ _ (by have := HTS.out; have := HH.out; omega) (by have := HTS.out; have := HH.out; omega), show ((h - (k + 1) : Nat) : Int) = (h : Int) - ((k : Int) + 1) by omega] at this
            unfold Sx so
            rw [HH.out]
            exact this⟩
          have HSL : Aside0 (a + Sx T d a (k + 1) ≤ n) := ⟨by
            have := so_le T (d + a) (k + 1) (by have := HTS.out; omega)
            have := HTS.out
            unfold Sx; omega⟩
          have HRK := Aside0.mk (HRS.out k)
          have HZ := Aside0.mk (ri_zero T d n r k)
          have HIN := Aside0.mk (ri_in T d n r k (HRI.out k))
          have HSU := Aside0.mk (ri_succ T d n r k)
          obtain ⟨s, hs⟩ : ∃ s, Sx T d a (k + 1) = s := ⟨_, rfl⟩
          rw [hs] at HSA HSL HRK
          clear hs
          go_wp2_with fail
          refine (HSA.out wr).mono ?_
          rintro e w1 ⟨rfl, hdr⟩
          have HI1 : Aside0 (Blk w1 g 3 (Value.int .i64) ((cs T d n r).set a (ri T d n r k 0)) ∧ Below g w0 w1) := ⟨by rw [HZ.out]; exact HI.out.1.drawn hdr, drawn_below HI.out.2 hdr⟩
          clear hdr HI HSA HZ
          obtain ⟨gk2, rfl⟩ : ∃ g1 : Nat, g1 = gk := ⟨_, rfl⟩
          obtain ⟨wo2, rfl⟩ : ∃ wo : World, wo = wr := ⟨_, rfl⟩
          go_wp2
          go_loopg [11] (s - 2) (fun gk x wr => ∃ j : Nat, Aside0 (j + gk = s - 2) ∧ x = .int .i64 (3 + (j : Int)) ∧ Aside0 (Blk wr g 3 (Value.int .i64) ((cs T d n r).set a (ri T d n r k j)) ∧ Below g w0 wr))
          case atStart => exact ⟨0, ⟨by omega⟩, rfl, ⟨HI1.out.1, HI1.out.2⟩⟩
          case round =>
            clear HI1
            obtain ⟨j, HJ, rfl, HI⟩ := hrel
            by_cases hj : j < s - 2
            · have hji : 3 + (j : Int) ≤ (s : Int) := by omega
              have hsl := HSL.out
              have hst := stN_in (3 + j) (k + 1)
              have HST : Aside0 (∀ w, Calls Try.prog 15 #[.int .i64 (3 + (j : Int)), .int .i64 ((k : Int) + 1)] w fun e w' => e = .returned (.int .i64 (stN (3 + j) (k + 1))) ∧ w' = w) := ⟨fun w => by
                have := rstep_any (3 + (j : Int)) ((k : Int) + 1) (by omega) (by omega) w
                exact this⟩
              have hin := HIN.out j
              have HS1 := Aside0.mk (HSU.out j)
              have htj := tb_in T d n r (3 + j - 1)
              have HGA : Aside0 (((cs T d n r).set a (ri T d n r k j)).getD a 0 = ri T d n r k j ∧ ((cs T d n r).set a (ri T d n r k j)).getD (a + (3 + j)) 0 = ((tb T d n r).getD (3 + j - 1) zc).2.2) := ⟨set_get _ _ _ (by rw [HCL.out]; omega), by
                rw [set_other _ _ _ _ (by omega), cs_get T d n r _ (by omega), show a + (3 + j) - (n - r) = 3 + j - 1 by omega]⟩
              have HLE : Aside0 (a < ((cs T d n r).set a (ri T d n r k j)).length ∧ a + (3 + j) < ((cs T d n r).set a (ri T d n r k j)).length) := ⟨by rw [List.length_set, HCL.out]; omega, by rw [List.length_set, HCL.out]; omega⟩
              obtain ⟨v, hv⟩ : ∃ v, ri T d n r k j = v := ⟨_, rfl⟩
              obtain ⟨tj, htje⟩ : ∃ tj, ((tb T d n r).getD (3 + j - 1) zc).2.2 = tj := ⟨_, rfl⟩
              obtain ⟨x, hx⟩ : ∃ x, stN (3 + j) (k + 1) = x := ⟨_, rfl⟩
              rw [hv] at hin HGA HLE HI HS1
              rw [htje] at HGA htj HS1
              rw [hx] at hst HST HS1
              obtain ⟨t1, t2⟩ := htj
              obtain ⟨s1, s2⟩ := hst
              obtain ⟨p1, p2⟩ := hin
              have hq1 : (0 : Int) ≤ (a : Int) + (3 + (j : Int)) := by omega
              have hq2 : (a : Int) + (3 + (j : Int)) < (n : Int) + 1 := by omega
              have hq3 : IntKind.i64.wrap ((a : Int) + (3 + (j : Int))) = (a : Int) + (3 + (j : Int)) := by rw [IntKind.wrap_i64]; omega
              have hq4 : ((a : Int) + (3 + (j : Int))).toNat = a + (3 + j) := by omega
              have hq5 : IntKind.i64.wrap (x + tj) = x + tj := by rw [IntKind.wrap_i64]; omega
              have hq6 : (a : Int) < (n : Int) + 1 := by omega
              have hq7 : (0 : Int) ≤ (a : Int) := by omega
              clear hv htje hx
              by_cases hlt2 : x + tj < v
              · have HE : Aside0 (ri T d n r k (j + 1) = x + tj) := ⟨by rw [HS1.out]; omega⟩
                clear HS1
                go_wp2
                refine St.steadyW (n := 19) (by kernel_rfl) ([] :: [] :: [] :: [] :: [(2, 57), (3, 58)] :: [(4, 59)] :: [] :: [] :: [(6, 61), (7, 62)] :: [] :: [] :: [] :: [(10, 65), (11, 66)] :: [(9, 64), (12, 67)] :: [(13, 68)] :: [(8, 63), (14, 69)] :: [(5, 60), (15, 70)] :: [(0, 55), (1, 56)] :: [(16, 71), (17, 72)] :: []) (some 55 :: some 56 :: some 57 :: some 58 :: some 59 :: some 60 :: some 61 :: some 62 :: some 63 :: some 64 :: some 65 :: some 66 :: some 67 :: some 68 :: some 69 :: some 70 :: some 71 :: some 72 :: none :: []) (by kernel_rfl) 18 (0 :: 0 :: 0 :: 0 :: 0 :: 0 :: 0 :: 0 :: 0 :: 0 :: 0 :: 0 :: 0 :: 0 :: 0 :: 0 :: 0 :: 0 :: 1 :: []) (by kernel_rfl) rfl (by decide) ((St.eqT ?c15_0) :: (St.eqT ?c15_1) :: (St.eqT ?c15_2) :: (St.eqT ?c15_3) :: (St.eqT ?c15_4) :: (St.eqT ?c15_5) :: (St.eqT ?c15_6) :: (St.eqT ?c15_7) :: (St.eqT ?c15_8) :: (St.eqT ?c15_9) :: (St.eqT ?c15_10) :: (St.eqT ?c15_11) :: (St.eqT ?c15_12) :: (St.eqT ?c15_13) :: (St.eqT ?c15_14) :: (St.eqT ?c15_15) :: (St.eqT ?c15_16) :: (St.eqT ?c15_17) :: (St.eqT undef) :: []) rfl (by rfl) (fun w' => Drawn0 wr w') (fun w w' => Drawn0 w w') (fun _ _ => True) (fun w' => ∃ nq, w' = (wr.drewN nq).setCell ⟨g, a, none⟩ (.int .i64 (x + tj))) (fun w w' => w = w') ?hst ?h0 ?hB ?hC ?hop ?hend
                case hop =>
                  refine ⟨?_, ?_, ?_, ?_, ?_, ?_, ?_, ?_, ?_, ?_, ?_, ?_, ?_, ?_, ?_, ?_, ?_, ?_, ?_, trivial⟩
                  · intro w hB
                    simp only [St.withD]
                    refine St.ob_value (v := ?_) (w' := w) (by rfl) ?_ ⟨Drawn0.refl _, ?_⟩
                    rotate_left
                    · go_simp
                      with_reducible rfl
                    · rfl
                  · intro w hB
                    simp only [St.withD]
                    refine St.ob_value (v := ?_) (w' := w) (by rfl) ?_ ⟨Drawn0.refl _, ?_⟩
                    rotate_left
                    · go_simp
                      with_reducible rfl
                    · rfl
                  · intro w hB
                    simp only [St.withD]
                    refine St.ob_value (v := ?_) (w' := w) (by rfl) ?_ ⟨Drawn0.refl _, ?_⟩
                    rotate_left
                    · go_simp
                      with_reducible rfl
                    · rfl
                  · intro w hB
                    simp only [St.withD]
                    refine St.ob_value (v := ?_) (w' := w) (by rfl) ?_ ⟨Drawn0.refl _, ?_⟩
                    rotate_left
                    · go_simp
                      with_reducible rfl
                    · rfl
                  · intro w hB; rintro _ ⟨_, rfl⟩ _ ⟨_, rfl⟩
                    simp only [St.withD, List.nil_append, List.cons_append, Act.put, List.setIfInBounds_toArray, List.set_cons_zero, List.set_cons_succ]
                    refine St.ob_value (v := ?_) (w' := w) (by rfl) ?_ ⟨Drawn0.refl _, ?_⟩
                    rotate_left
                    · go_simp
                      with_reducible rfl
                    · rfl
                  · intro w hB; rintro _ ⟨_, rfl⟩
                    simp only [St.withD, List.nil_append, List.cons_append, Act.put, List.setIfInBounds_toArray, List.set_cons_zero, List.set_cons_succ]
                    have HW := HI.out.1.drawn hB
                    have c0 : w.cell? ⟨g, a, none⟩ = some (.int .i64 v) := (HW.cell a 0 HLE.out.1).trans (congrArg (fun z => some (Value.int .i64 z)) HGA.out.1)
                    have c1 : w.cell? ⟨g, a + (3 + j), none⟩ = some (.int .i64 tj) := (HW.cell (a + (3 + j)) 0 HLE.out.2).trans (congrArg (fun z => some (Value.int .i64 z)) HGA.out.2)
                    clear HW
                    refine St.ob_value (v := ?_) (w' := w) (by rfl) ?_ ⟨Drawn0.refl _, ?_⟩
                    rotate_left
                    · go_simp
                      with_reducible rfl
                    · rfl
                  · intro w hB
                    simp only [St.withD]
                    refine St.ob_value (v := ?_) (w' := w) (by rfl) ?_ ⟨Drawn0.refl _, ?_⟩
                    rotate_left
                    · go_simp
                      with_reducible rfl
                    · rfl
                  · intro w hB
                    simp only [St.withD]
                    refine St.ob_value (v := ?_) (w' := w) (by rfl) ?_ ⟨Drawn0.refl _, ?_⟩
                    rotate_left
                    · go_simp
                      with_reducible rfl
                    · rfl
                  · intro w hB; rintro _ ⟨_, rfl⟩ _ ⟨_, rfl⟩
                    simp only [St.withD, List.nil_append, List.cons_append, Act.put, List.setIfInBounds_toArray, List.set_cons_zero, List.set_cons_succ]
                    refine St.ob_call Try.func15 (by kernel_rfl) rfl #[.int .i64 (3 + (j : Int)), .int .i64 ((k : Int) + 1)] (by rfl) rfl (by (try simp only [List.map_toArray, List.map_cons, List.map_nil]); first | done | rfl | (simp only [List.length_drop, List.length_take]; rfl)) ?_
                    refine (HST.out w).mono ?_
                    rintro e w1 ⟨rfl, rfl⟩
                    refine ⟨_, rfl, Drawn0.refl _, ?_⟩
                    rfl
                  · intro w hB
                    simp only [St.withD]
                    refine St.ob_value (v := ?_) (w' := w) (by rfl) ?_ ⟨Drawn0.refl _, ?_⟩
                    rotate_left
                    · go_simp
                      with_reducible rfl
                    · rfl
                  · intro w hB
                    simp only [St.withD]
                    refine St.ob_value (v := ?_) (w' := w) (by rfl) ?_ ⟨Drawn0.refl _, ?_⟩
                    rotate_left
                    · go_simp
                      with_reducible rfl
                    · rfl
                  · intro w hB
                    simp only [St.withD]
                    refine St.ob_value (v := ?_) (w' := w) (by rfl) ?_ ⟨Drawn0.refl _, ?_⟩
                    rotate_left
                    · go_simp
                      with_reducible rfl
                    · rfl
                  · intro w hB; rintro _ ⟨_, rfl⟩ _ ⟨_, rfl⟩
                    simp only [St.withD, List.nil_append, List.cons_append, Act.put, List.setIfInBounds_toArray, List.set_cons_zero, List.set_cons_succ]
                    refine St.ob_value (v := ?_) (w' := w) (by rfl) ?_ ⟨Drawn0.refl _, ?_⟩
                    rotate_left
                    · go_simp
                      with_reducible rfl
                    · rfl
                  · intro w hB; rintro _ ⟨_, rfl⟩ _ ⟨_, rfl⟩
                    simp only [St.withD, List.nil_append, List.cons_append, Act.put, List.setIfInBounds_toArray, List.set_cons_zero, List.set_cons_succ]
                    refine St.ob_value (v := ?_) (w' := w) (by rfl) ?_ ⟨Drawn0.refl _, ?_⟩
                    rotate_left
                    · go_simp
                      with_reducible rfl
                    · rfl
                  · intro w hB; rintro _ ⟨_, rfl⟩
                    simp only [St.withD, List.nil_append, List.cons_append, Act.put, List.setIfInBounds_toArray, List.set_cons_zero, List.set_cons_succ]
                    have HW := HI.out.1.drawn hB
                    have c0 : w.cell? ⟨g, a, none⟩ = some (.int .i64 v) := (HW.cell a 0 HLE.out.1).trans (congrArg (fun z => some (Value.int .i64 z)) HGA.out.1)
                    have c1 : w.cell? ⟨g, a + (3 + j), none⟩ = some (.int .i64 tj) := (HW.cell (a + (3 + j)) 0 HLE.out.2).trans (congrArg (fun z => some (Value.int .i64 z)) HGA.out.2)
                    clear HW
                    refine St.ob_value (v := ?_) (w' := w) (by rfl) ?_ ⟨Drawn0.refl _, ?_⟩
                    rotate_left
                    · go_simp
                      with_reducible rfl
                    · rfl
                  · intro w hB; rintro _ ⟨_, rfl⟩ _ ⟨_, rfl⟩
                    simp only [St.withD, List.nil_append, List.cons_append, Act.put, List.setIfInBounds_toArray, List.set_cons_zero, List.set_cons_succ]
                    refine St.ob_value (v := ?_) (w' := w) (by rfl) ?_ ⟨Drawn0.refl _, ?_⟩
                    rotate_left
                    · go_simp
                      with_reducible rfl
                    · rfl
                  · intro w hB; rintro _ ⟨_, rfl⟩ _ ⟨_, rfl⟩
                    simp only [St.withD, List.nil_append, List.cons_append, Act.put, List.setIfInBounds_toArray, List.set_cons_zero, List.set_cons_succ]
                    refine St.ob_value (v := ?_) (w' := w) (by rfl) ?_ ⟨Drawn0.refl _, ?_⟩
                    rotate_left
                    · go_simp
                      with_reducible rfl
                    · rfl
                  · intro w hB; rintro _ ⟨_, rfl⟩ _ ⟨_, rfl⟩
                    simp only [St.withD, List.nil_append, List.cons_append, Act.put, List.setIfInBounds_toArray, List.set_cons_zero, List.set_cons_succ]
                    refine St.ob_value (v := ?_) (w' := w) (by rfl) ?_ ⟨Drawn0.refl _, ?_⟩
                    rotate_left
                    · go_simp
                      with_reducible rfl
                    · rfl
                  · intro w hB; rintro _ ⟨_, rfl⟩ _ ⟨_, rfl⟩
                    simp only [St.withD, List.nil_append, List.cons_append, Act.put, List.setIfInBounds_toArray, List.set_cons_zero, List.set_cons_succ]
                    obtain ⟨⟨nq, rfl⟩⟩ := hB
                    have HW : Blk (wr.drewN nq) g 3 (Value.int .i64) _ := HI.out.1.drawn ⟨⟨nq, rfl⟩⟩
                    have c0 := HW.cell a 0 HLE.out.1
                    have f0 := HW.free a
                    refine St.ob_skip (w' := (wr.drewN nq).setCell ⟨g, a, none⟩ (.int .i64 (x + tj))) (by rfl) ?_ ⟨⟨trivial, nq, rfl⟩, rfl⟩
                    clear HW
                    go_simp
                case hst => exact ⟨St.eqT_st, St.eqT_st, St.eqT_st, St.eqT_st, St.eqT_st, St.eqT_st, St.eqT_st, St.eqT_st, St.eqT_st, St.eqT_st, St.eqT_st, St.eqT_st, St.eqT_st, St.eqT_st, St.eqT_st, St.eqT_st, St.eqT_st, St.eqT_st, St.eqT_st, trivial⟩
                case h0 => exact Drawn0.step (Drawn0.refl wr) 1
                case hB => exact fun w w' h k => drawn_trans h k
                case hC => (intro w w' h e; subst e; exact h)
                case hend =>
                  intro w hB
                  rintro _ rfl _ rfl _ rfl _ rfl _ rfl _ rfl _ rfl _ rfl _ rfl _ rfl _ rfl _ rfl _ rfl _ rfl _ rfl _ rfl _ rfl _ rfl _ rfl
                  simp only [List.map_cons, List.map_nil, List.nil_append, List.cons_append, List.getD_cons_zero, List.getD_cons_succ, Act.put, List.setIfInBounds_toArray, List.set_cons_zero, List.set_cons_succ]
                  rw [St.withE_nil]
                  obtain ⟨nq, rfl⟩ := hB
                  have HI2 : Aside0 (Blk ((wr.drewN nq).setCell ⟨g, a, none⟩ (.int .i64 (x + tj))) g 3 (Value.int .i64) ((cs T d n r).set a (x + tj)) ∧ Below g w0 ((wr.drewN nq).setCell ⟨g, a, none⟩ (.int .i64 (x + tj)))) := ⟨by
                    have h1 : Blk (wr.drewN nq) g 3 (Value.int .i64) ((cs T d n r).set a v) := HI.out.1.drawn ⟨⟨nq, rfl⟩⟩
                    have h2 := h1.put a (x + tj)
                    rw [List.set_set] at h2
                    exact h2, (pw_below_drewN HI.out.2 nq).setCell (Nat.le_refl _) _⟩
                  generalize (wr.drewN nq).setCell ⟨g, a, none⟩ (.int .i64 (x + tj)) = V at HI2 ⊢
                  clear HI HST hq1 hq2 hq3 hq4 hq5 hq6 hq7
                  go_wp2
                  go_roundg (gk - 1)
                  case measure => have := HJ.out; omega
                  case rel => exact ⟨j + 1, ⟨by have := HJ.out; omega⟩, by go_num, ⟨by rw [HE.out]; exact HI2.out.1, HI2.out.2⟩⟩
              · have HE : Aside0 (ri T d n r k (j + 1) = v) := ⟨by rw [HS1.out]; omega⟩
                have hlt3 : (x + tj < v) = False := eq_false hlt2
                clear HS1
                go_wp2
                refine St.steadyW (n := 19) (by kernel_rfl) ([] :: [] :: [] :: [] :: [(2, 57), (3, 58)] :: [(4, 59)] :: [] :: [] :: [(6, 61), (7, 62)] :: [] :: [] :: [] :: [(10, 65), (11, 66)] :: [(9, 64), (12, 67)] :: [(13, 68)] :: [(8, 63), (14, 69)] :: [(5, 60), (15, 70)] :: [(0, 55), (1, 56)] :: [(16, 71), (17, 72)] :: []) (some 55 :: some 56 :: some 57 :: some 58 :: some 59 :: some 60 :: some 61 :: some 62 :: some 63 :: some 64 :: some 65 :: some 66 :: some 67 :: some 68 :: some 69 :: some 70 :: some 71 :: some 72 :: none :: []) (by kernel_rfl) 18 (0 :: 0 :: 0 :: 0 :: 0 :: 0 :: 0 :: 0 :: 0 :: 0 :: 0 :: 0 :: 0 :: 0 :: 0 :: 0 :: 0 :: 0 :: 1 :: []) (by kernel_rfl) rfl (by decide) ((St.eqT ?c15_0x2) :: (St.eqT ?c15_1x2) :: (St.eqT ?c15_2x2) :: (St.eqT ?c15_3x2) :: (St.eqT ?c15_4x2) :: (St.eqT ?c15_5x2) :: (St.eqT ?c15_6x2) :: (St.eqT ?c15_7x2) :: (St.eqT ?c15_8x2) :: (St.eqT ?c15_9x2) :: (St.eqT ?c15_10x2) :: (St.eqT ?c15_11x2) :: (St.eqT ?c15_12x2) :: (St.eqT ?c15_13x2) :: (St.eqT ?c15_14x2) :: (St.eqT ?c15_15x2) :: (St.eqT ?c15_16x2) :: (St.eqT ?c15_17x2) :: (St.eqT undef) :: []) rfl (by rfl) (fun w' => Drawn0 wr w') (fun w w' => Drawn0 w w') (fun _ _ => True) (fun w' => ∃ nq, w' = (wr.drewN nq).setCell ⟨g, a, none⟩ (.int .i64 (v))) (fun w w' => w = w') ?hst ?h0 ?hB ?hC ?hop ?hend
                case hop =>
                  refine ⟨?_, ?_, ?_, ?_, ?_, ?_, ?_, ?_, ?_, ?_, ?_, ?_, ?_, ?_, ?_, ?_, ?_, ?_, ?_, trivial⟩
                  · intro w hB
                    simp only [St.withD]
                    refine St.ob_value (v := ?_) (w' := w) (by rfl) ?_ ⟨Drawn0.refl _, ?_⟩
                    rotate_left
                    · go_simp
                      with_reducible rfl
                    · rfl
                  · intro w hB
                    simp only [St.withD]
                    refine St.ob_value (v := ?_) (w' := w) (by rfl) ?_ ⟨Drawn0.refl _, ?_⟩
                    rotate_left
                    · go_simp
                      with_reducible rfl
                    · rfl
                  · intro w hB
                    simp only [St.withD]
                    refine St.ob_value (v := ?_) (w' := w) (by rfl) ?_ ⟨Drawn0.refl _, ?_⟩
                    rotate_left
                    · go_simp
                      with_reducible rfl
                    · rfl
                  · intro w hB
                    simp only [St.withD]
                    refine St.ob_value (v := ?_) (w' := w) (by rfl) ?_ ⟨Drawn0.refl _, ?_⟩
                    rotate_left
                    · go_simp
                      with_reducible rfl
                    · rfl
                  · intro w hB; rintro _ ⟨_, rfl⟩ _ ⟨_, rfl⟩
                    simp only [St.withD, List.nil_append, List.cons_append, Act.put, List.setIfInBounds_toArray, List.set_cons_zero, List.set_cons_succ]
                    refine St.ob_value (v := ?_) (w' := w) (by rfl) ?_ ⟨Drawn0.refl _, ?_⟩
                    rotate_left
                    · go_simp
                      with_reducible rfl
                    · rfl
                  · intro w hB; rintro _ ⟨_, rfl⟩
                    simp only [St.withD, List.nil_append, List.cons_append, Act.put, List.setIfInBounds_toArray, List.set_cons_zero, List.set_cons_succ]
                    have HW := HI.out.1.drawn hB
                    have c0 : w.cell? ⟨g, a, none⟩ = some (.int .i64 v) := (HW.cell a 0 HLE.out.1).trans (congrArg (fun z => some (Value.int .i64 z)) HGA.out.1)
                    have c1 : w.cell? ⟨g, a + (3 + j), none⟩ = some (.int .i64 tj) := (HW.cell (a + (3 + j)) 0 HLE.out.2).trans (congrArg (fun z => some (Value.int .i64 z)) HGA.out.2)
                    clear HW
                    refine St.ob_value (v := ?_) (w' := w) (by rfl) ?_ ⟨Drawn0.refl _, ?_⟩
                    rotate_left
                    · go_simp
                      with_reducible rfl
                    · rfl
                  · intro w hB
                    simp only [St.withD]
                    refine St.ob_value (v := ?_) (w' := w) (by rfl) ?_ ⟨Drawn0.refl _, ?_⟩
                    rotate_left
                    · go_simp
                      with_reducible rfl
                    · rfl
                  · intro w hB
                    simp only [St.withD]
                    refine St.ob_value (v := ?_) (w' := w) (by rfl) ?_ ⟨Drawn0.refl _, ?_⟩
                    rotate_left
                    · go_simp
                      with_reducible rfl
                    · rfl
                  · intro w hB; rintro _ ⟨_, rfl⟩ _ ⟨_, rfl⟩
                    simp only [St.withD, List.nil_append, List.cons_append, Act.put, List.setIfInBounds_toArray, List.set_cons_zero, List.set_cons_succ]
                    refine St.ob_call Try.func15 (by kernel_rfl) rfl #[.int .i64 (3 + (j : Int)), .int .i64 ((k : Int) + 1)] (by rfl) rfl (by (try simp only [List.map_toArray, List.map_cons, List.map_nil]); first | done | rfl | (simp only [List.length_drop, List.length_take]; rfl)) ?_
                    refine (HST.out w).mono ?_
                    rintro e w1 ⟨rfl, rfl⟩
                    refine ⟨_, rfl, Drawn0.refl _, ?_⟩
                    rfl
                  · intro w hB
                    simp only [St.withD]
                    refine St.ob_value (v := ?_) (w' := w) (by rfl) ?_ ⟨Drawn0.refl _, ?_⟩
                    rotate_left
                    · go_simp
                      with_reducible rfl
                    · rfl
                  · intro w hB
                    simp only [St.withD]
                    refine St.ob_value (v := ?_) (w' := w) (by rfl) ?_ ⟨Drawn0.refl _, ?_⟩
                    rotate_left
                    · go_simp
                      with_reducible rfl
                    · rfl
                  · intro w hB
                    simp only [St.withD]
                    refine St.ob_value (v := ?_) (w' := w) (by rfl) ?_ ⟨Drawn0.refl _, ?_⟩
                    rotate_left
                    · go_simp
                      with_reducible rfl
                    · rfl
                  · intro w hB; rintro _ ⟨_, rfl⟩ _ ⟨_, rfl⟩
                    simp only [St.withD, List.nil_append, List.cons_append, Act.put, List.setIfInBounds_toArray, List.set_cons_zero, List.set_cons_succ]
                    refine St.ob_value (v := ?_) (w' := w) (by rfl) ?_ ⟨Drawn0.refl _, ?_⟩
                    rotate_left
                    · go_simp
                      with_reducible rfl
                    · rfl
                  · intro w hB; rintro _ ⟨_, rfl⟩ _ ⟨_, rfl⟩
                    simp only [St.withD, List.nil_append, List.cons_append, Act.put, List.setIfInBounds_toArray, List.set_cons_zero, List.set_cons_succ]
                    refine St.ob_value (v := ?_) (w' := w) (by rfl) ?_ ⟨Drawn0.refl _, ?_⟩
                    rotate_left
                    · go_simp
                      with_reducible rfl
                    · rfl
                  · intro w hB; rintro _ ⟨_, rfl⟩
                    simp only [St.withD, List.nil_append, List.cons_append, Act.put, List.setIfInBounds_toArray, List.set_cons_zero, List.set_cons_succ]
                    have HW := HI.out.1.drawn hB
                    have c0 : w.cell? ⟨g, a, none⟩ = some (.int .i64 v) := (HW.cell a 0 HLE.out.1).trans (congrArg (fun z => some (Value.int .i64 z)) HGA.out.1)
                    have c1 : w.cell? ⟨g, a + (3 + j), none⟩ = some (.int .i64 tj) := (HW.cell (a + (3 + j)) 0 HLE.out.2).trans (congrArg (fun z => some (Value.int .i64 z)) HGA.out.2)
                    clear HW
                    refine St.ob_value (v := ?_) (w' := w) (by rfl) ?_ ⟨Drawn0.refl _, ?_⟩
                    rotate_left
                    · go_simp
                      with_reducible rfl
                    · rfl
                  · intro w hB; rintro _ ⟨_, rfl⟩ _ ⟨_, rfl⟩
                    simp only [St.withD, List.nil_append, List.cons_append, Act.put, List.setIfInBounds_toArray, List.set_cons_zero, List.set_cons_succ]
                    refine St.ob_value (v := ?_) (w' := w) (by rfl) ?_ ⟨Drawn0.refl _, ?_⟩
                    rotate_left
                    · go_simp
                      with_reducible rfl
                    · rfl
                  · intro w hB; rintro _ ⟨_, rfl⟩ _ ⟨_, rfl⟩
                    simp only [St.withD, List.nil_append, List.cons_append, Act.put, List.setIfInBounds_toArray, List.set_cons_zero, List.set_cons_succ]
                    refine St.ob_value (v := ?_) (w' := w) (by rfl) ?_ ⟨Drawn0.refl _, ?_⟩
                    rotate_left
                    · go_simp
                      with_reducible rfl
                    · rfl
                  · intro w hB; rintro _ ⟨_, rfl⟩ _ ⟨_, rfl⟩
                    simp only [St.withD, List.nil_append, List.cons_append, Act.put, List.setIfInBounds_toArray, List.set_cons_zero, List.set_cons_succ]
                    refine St.ob_value (v := ?_) (w' := w) (by rfl) ?_ ⟨Drawn0.refl _, ?_⟩
                    rotate_left
                    · go_simp
                      with_reducible rfl
                    · rfl
                  · intro w hB; rintro _ ⟨_, rfl⟩ _ ⟨_, rfl⟩
                    simp only [St.withD, List.nil_append, List.cons_append, Act.put, List.setIfInBounds_toArray, List.set_cons_zero, List.set_cons_succ]
                    obtain ⟨⟨nq, rfl⟩⟩ := hB
                    have HW : Blk (wr.drewN nq) g 3 (Value.int .i64) _ := HI.out.1.drawn ⟨⟨nq, rfl⟩⟩
                    have c0 := HW.cell a 0 HLE.out.1
                    have f0 := HW.free a
                    refine St.ob_skip (w' := (wr.drewN nq).setCell ⟨g, a, none⟩ (.int .i64 (v))) (by rfl) ?_ ⟨⟨trivial, nq, rfl⟩, rfl⟩
                    clear HW
                    go_simp
                case hst => exact ⟨St.eqT_st, St.eqT_st, St.eqT_st, St.eqT_st, St.eqT_st, St.eqT_st, St.eqT_st, St.eqT_st, St.eqT_st, St.eqT_st, St.eqT_st, St.eqT_st, St.eqT_st, St.eqT_st, St.eqT_st, St.eqT_st, St.eqT_st, St.eqT_st, St.eqT_st, trivial⟩
                case h0 => exact Drawn0.step (Drawn0.refl wr) 1
                case hB => exact fun w w' h k => drawn_trans h k
                case hC => (intro w w' h e; subst e; exact h)
                case hend =>
                  intro w hB
                  rintro _ rfl _ rfl _ rfl _ rfl _ rfl _ rfl _ rfl _ rfl _ rfl _ rfl _ rfl _ rfl _ rfl _ rfl _ rfl _ rfl _ rfl _ rfl _ rfl
                  simp only [List.map_cons, List.map_nil, List.nil_append, List.cons_append, List.getD_cons_zero, List.getD_cons_succ, Act.put, List.setIfInBounds_toArray, List.set_cons_zero, List.set_cons_succ]
                  rw [St.withE_nil]
                  obtain ⟨nq, rfl⟩ := hB
                  have HI2 : Aside0 (Blk ((wr.drewN nq).setCell ⟨g, a, none⟩ (.int .i64 (v))) g 3 (Value.int .i64) ((cs T d n r).set a (v)) ∧ Below g w0 ((wr.drewN nq).setCell ⟨g, a, none⟩ (.int .i64 (v)))) := ⟨by
                    have h1 : Blk (wr.drewN nq) g 3 (Value.int .i64) ((cs T d n r).set a v) := HI.out.1.drawn ⟨⟨nq, rfl⟩⟩
                    have h2 := h1.put a (v)
                    rw [List.set_set] at h2
                    exact h2, (pw_below_drewN HI.out.2 nq).setCell (Nat.le_refl _) _⟩
                  generalize (wr.drewN nq).setCell ⟨g, a, none⟩ (.int .i64 (v)) = V at HI2 ⊢
                  clear HI HST hq1 hq2 hq3 hq4 hq5 hq6 hq7
                  go_wp2
                  go_roundg (gk - 1)
                  case measure => have := HJ.out; omega
                  case rel => exact ⟨j + 1, ⟨by have := HJ.out; omega⟩, by go_num, ⟨by rw [HE.out]; exact HI2.out.1, HI2.out.2⟩⟩
            · have hji : ¬ 3 + (j : Int) ≤ (s : Int) := by omega
              obtain rfl : j = s - 2 := by have := HJ.out; omega
              clear HIN HSU
              go_wp2
              go_roundg (gk2 - 1)
              case measure => have := HK.out; omega
              case rel => exact ⟨k + 1, ⟨by have := HK.out; omega⟩, by go_num, ⟨by rw [HRK.out]; exact HI.out.1, HI.out.2⟩⟩
        · obtain rfl : k = h := by have := HK.out; omega
          have hki : ¬ (k : Int) + 1 ≤ (k : Int) := by omega
          have HC2 : Aside0 ((cs T d n r).set a (ro T d n r k) = cs T d n (r + 1)) := ⟨by rw [← HCS.out, ← HRL.out, HH.out]⟩
          rw [HC2.out] at HI
          go_wp2
          go_roundg (gk1 - 1)
          case measure => have := HR.out; omega
          case rel => exact ⟨r + 1, ⟨by have := HR.out; omega⟩, by go_num, ⟨HI.out.1, HI.out.2⟩⟩
    · obtain rfl : r = n := by have := HR.out; omega
      have hcl := cs_len T d r r (Nat.le_refl _)
      have c0 := HB.out.1.cell 0 0 (by omega)
      rw [cs_get T d r r 0 (by omega), Nat.sub_self] at c0
      obtain ⟨z, hz⟩ : ∃ z, ((tb T d r r).getD 0 zc).2.2 = z := ⟨_, rfl⟩
      simp only [Nat.sub_zero, hz] at c0
      have HZ := Aside0.mk hz
      clear hcl hz
      go_wp2
      go_ret
      rw [HZ.out]
      exact ⟨rfl, by rw [HG.out]; exact HB.out.2⟩
end Go.Proofs.Ytfijbhacobjjgad
