/- The contracts of chain's Note, Find. -/
import Derived.Test.YtfijbhacobjjgaaChainA
import Derived.Test.YtfijbhacobjjgaaStrs
namespace Go.Proofs.Ytfijbhacobjjgaa
open Go.RowKit Go.Proofs.YtfijbhacobjjgaaW.PrintWords Go.Proofs.YtfijbhacobjjgaaW.PrintLast Go.Proofs.YtfijbhacobjjgaaW.PrintMore Go.Proofs.Ytfijbhacobjjgaa.Fr
set_option linter.unusedVariables false
set_option linter.unusedSimpArgs false
attribute [local go_sem] max2_int min2_int max_two min_two

open Go.Proofs.Ytfijbhacobjjgaa.Pl
variable {w w1 : World} {g gh ga gn : Nat} {T : ByteArray} {hs ah : List Int} {nt : List Bool}
theorem note_none (a : Int) (w : World) : Calls Try.prog 8 #[.pointer none, .int .i64 a] w fun e w' => e = .returned (.bool false) ∧ w = w' := by
  go_enter Try.func8, Try.ntmps8
  go_wp2_with fail
  refine (right_none a _).mono ?_
  rintro e w1 ⟨rfl, rfl⟩
  go_wp2
  go_ret
  exact ⟨rfl, rfl⟩
theorem note_wrong (a : Int) (ha : -9223372036854775808 ≤ a) (hr : rightB T.size a = false) (x : FinderAt w g gh ga gn T hs ah nt) : Calls Try.prog 8 #[.pointer (some ⟨g, 0, none⟩), .int .i64 a] w fun e w' => e = .returned (.bool false) ∧ w = w' := by
  have HX := Aside0.mk x
  have HR := Aside0.mk hr
  clear x hr
  go_enter Try.func8, Try.ntmps8
  go_wp2_with fail
  refine (right_any a ha HX.out).mono ?_
  rintro e w1 ⟨rfl, rfl⟩
  rw [HR.out]
  go_wp2
  go_ret
  exact ⟨rfl, rfl⟩
theorem note_again (a : Nat) (ha : a + 3 ≤ T.size) (hn : nt.getD a false = true) (x : FinderAt w g gh ga gn T hs ah nt) : Calls Try.prog 8 #[.pointer (some ⟨g, 0, none⟩), .int .i64 a] w fun e w' => e = .returned (.bool false) ∧ w = w' := by
  have HX := Aside0.mk x
  have hsm := x.small
  have c3 : w.cell? ⟨g, 3, none⟩ = some (.slice (some ⟨gn, 0, none⟩) T.size T.size) := (blk_cell x.box 3).trans rfl
  have cn : w.cell? ⟨gn, a, none⟩ = some (.bool true) := by have := x.noted.cell a false (by rw [x.nl]; omega); rwa [hn] at this
  have HR : Aside0 (rightB T.size a = true) := ⟨by unfold rightB; exact decide_eq_true (by omega)⟩
  clear x hn
  go_enter Try.func8, Try.ntmps8
  go_wp2_with fail
  refine (right_any a (by omega) HX.out).mono ?_
  rintro e w1 ⟨rfl, rfl⟩
  rw [HR.out]
  go_wp2
  go_ret
  exact ⟨rfl, rfl⟩
set_option maxRecDepth 100000 in
set_option maxHeartbeats 1000000 in
theorem note_yes (a : Nat) (ha : a + 3 ≤ T.size) (hn : nt.getD a false = false) (x : FinderAt w g gh ga gn T hs ah nt) : Calls Try.prog 8 #[.pointer (some ⟨g, 0, none⟩), .int .i64 a] w fun e w' => e = .returned (.bool true) ∧ FinderAt w' g gh ga gn T (hs.set (hsh T a) a) (ah.set a (hs.getD (hsh T a) 0)) (nt.set a true) ∧ Ch (fun i => i = gh ∨ i = ga ∨ i = gn) w w' := by
  have HX := Aside0.mk x
  have hsm := x.small
  have c3 : w.cell? ⟨g, 3, none⟩ = some (.slice (some ⟨gn, 0, none⟩) T.size T.size) := (blk_cell x.box 3).trans rfl
  have cn : w.cell? ⟨gn, a, none⟩ = some (.bool false) := by have := x.noted.cell a false (by rw [x.nl]; omega); rwa [hn] at this
  have HR : Aside0 (rightB T.size a = true) := ⟨by unfold rightB; exact decide_eq_true (by omega)⟩
  have haT : a < T.size := by omega
  clear x hn
  go_enter Try.func8, Try.ntmps8
  go_wp2_with fail
  refine (right_any a (by omega) HX.out).mono ?_
  rintro e w1 ⟨rfl, rfl⟩
  rw [HR.out]
  go_wp2_with fail
  refine (hash_any a ha HX.out).mono ?_
  rintro e w1 ⟨rfl, hd⟩
  have HX1 := Aside0.mk (HX.out.below hd.below)
  have HD := Aside0.mk hd
  clear hd c3 cn HX
  obtain ⟨h, hh⟩ : ∃ h, hsh T a = h := ⟨_, rfl⟩
  have hlt : h < 1024 := hh ▸ hsh_lt T a
  have HH := Aside0.mk hh
  rw [hh]
  clear hh
  have d1 : w1.cell? ⟨g, 1, none⟩ = some (.slice (some ⟨gh, 0, none⟩) 1024 1024) := (blk_cell HX1.out.box 1).trans rfl
  have d2 : w1.cell? ⟨g, 2, none⟩ = some (.slice (some ⟨ga, 0, none⟩) T.size T.size) := (blk_cell HX1.out.box 2).trans rfl
  have d3 : w1.cell? ⟨g, 3, none⟩ = some (.slice (some ⟨gn, 0, none⟩) T.size T.size) := (blk_cell HX1.out.box 3).trans rfl
  have e1 : w1.cell? ⟨gh, h, none⟩ = some (.int .i64 (hs.getD h 0)) := HX1.out.heads.cell h 0 (by rw [HX1.out.hl]; exact hlt)
  have e2 : w1.cell? ⟨ga, a, none⟩ = some (.int .i64 (ah.getD a 0)) := HX1.out.ahead.cell a 0 (by rw [HX1.out.al]; exact haT)
  have e3 : w1.cell? ⟨gn, a, none⟩ = some (.bool (nt.getD a false)) := HX1.out.noted.cell a false (by rw [HX1.out.nl]; exact haT)
  have f1 := HX1.out.heads.free h
  have f2 := HX1.out.ahead.free a
  have f3 := HX1.out.noted.free a
  obtain ⟨v, hv⟩ : ∃ v, hs.getD h 0 = v := ⟨_, rfl⟩
  have HV := Aside0.mk hv
  rw [hv] at e1
  clear hv
  have n1 : ga ≠ gn := HX1.out.d6
  have n2 : gn ≠ ga := fun e => n1 e.symm
  have e4 : (w1.setCell ⟨ga, a, none⟩ (.int .i64 v)).cell? ⟨gn, a, none⟩ = some (.bool (nt.getD a false)) := (HX1.out.noted.far n2 a _).cell a false (by rw [HX1.out.nl]; exact haT)
  have f4 : (w1.setCell ⟨ga, a, none⟩ (.int .i64 v)).frozen? ⟨gn, a, none⟩ = false := (HX1.out.noted.far n2 a _).free a
  have e5 : (w1.setCell ⟨gn, a, none⟩ (.bool true)).cell? ⟨ga, a, none⟩ = some (.int .i64 (ah.getD a 0)) := (HX1.out.ahead.far n1 a _).cell a 0 (by rw [HX1.out.al]; exact haT)
  have f5 : (w1.setCell ⟨gn, a, none⟩ (.bool true)).frozen? ⟨ga, a, none⟩ = false := (HX1.out.ahead.far n1 a _).free a
  have HF : Aside0 (∀ V : World, (V.heap = ((w1.setCell ⟨ga, a, none⟩ (.int .i64 v)).setCell ⟨gn, a, none⟩ (.bool true)).heap) → FinderAt V g gh ga gn T hs (ah.set a v) (nt.set a true)) := ⟨fun V hV => by
    have x := HX1.out
    have hb : ∀ {k : Nat} {o : Obj}, ((w1.setCell ⟨ga, a, none⟩ (.int .i64 v)).setCell ⟨gn, a, none⟩ (.bool true)).heap[k]? = some o → V.heap[k]? = some o := fun h => by rw [hV]; exact h
    exact ⟨hb (blk_far (blk_far x.box x.d2 _) x.d3 _), hb ((x.heads.far x.d4 a _).far x.d5 a _), hb ((x.ahead.put a v).far x.d6 a _), hb (Blk.put (x.noted.far n2 a _) a true), x.hl, by rw [List.length_set]; exact x.al, by rw [List.length_set]; exact x.nl, x.small, x.d1, x.d2, x.d3, x.d4, x.d5, x.d6⟩⟩
  go_wp2
  go_region
  have HF2 := HF.out ((w1.setCell ⟨ga, a, none⟩ (.int .i64 v)).setCell ⟨gn, a, none⟩ (.bool true)).drew rfl
  have HC2 : Aside0 (Ch (fun i => i = gh ∨ i = ga ∨ i = gn) w ((w1.setCell ⟨ga, a, none⟩ (.int .i64 v)).setCell ⟨gn, a, none⟩ (.bool true)).drew) := ⟨((((Ch.of_below (HD.out.below)).set (.inr (.inl rfl))).set (.inr (.inr rfl)))).drew⟩
  clear d1 d2 d3 e1 e2 e3 e4 e5 f1 f2 f3 f4 f5 HF HX1 HD
  generalize ((w1.setCell ⟨ga, a, none⟩ (.int .i64 v)).setCell ⟨gn, a, none⟩ (.bool true)).drew = V at HF2 HC2 ⊢
  have d1 : V.cell? ⟨g, 1, none⟩ = some (.slice (some ⟨gh, 0, none⟩) 1024 1024) := (blk_cell HF2.box 1).trans rfl
  have e1 : V.cell? ⟨gh, h, none⟩ = some (.int .i64 (hs.getD h 0)) := HF2.heads.cell h 0 (by rw [HF2.hl]; exact hlt)
  have f1 := HF2.heads.free h
  have HF3 := Aside0.mk HF2
  clear HF2
  go_wp2
  go_ret
  refine ⟨rfl, ?_, HC2.out.set (.inl rfl)⟩
  have x := HF3.out
  rw [HH.out, HV.out]
  exact ⟨blk_far x.box x.d1 _, x.heads.put h a, x.ahead.far (fun e => x.d4 e.symm) h _, x.noted.far (fun e => x.d5 e.symm) h _, by rw [List.length_set]; exact x.hl, x.al, x.nl, x.small, x.d1, x.d2, x.d3, x.d4, x.d5, x.d6⟩
theorem find_none (a d : Int) (w : World) : Calls Try.prog 10 #[.pointer none, .int .i64 a, .int .i64 d] w fun e w' => e = .returned (.tuple #[.int .i64 0, .int .i64 0]) ∧ w = w' := by
  go_enter Try.func10, Try.ntmps10
  go_wp2_with fail
  refine (right_none a _).mono ?_
  rintro e w1 ⟨rfl, rfl⟩
  go_wp2
  go_ret2
  exact ⟨rfl, rfl⟩
theorem find_wrong (a d : Int) (ha : -9223372036854775808 ≤ a) (hr : rightB T.size a = false) (x : FinderAt w g gh ga gn T hs ah nt) : Calls Try.prog 10 #[.pointer (some ⟨g, 0, none⟩), .int .i64 a, .int .i64 d] w fun e w' => e = .returned (.tuple #[.int .i64 0, .int .i64 0]) ∧ w = w' := by
  have HX := Aside0.mk x
  have HR := Aside0.mk hr
  clear x hr
  go_enter Try.func10, Try.ntmps10
  go_wp2_with fail
  refine (right_any a ha HX.out).mono ?_
  rintro e w1 ⟨rfl, rfl⟩
  rw [HR.out]
  go_wp2
  go_ret2
  exact ⟨rfl, rfl⟩
/-- Three bytes. -/
def three (T : ByteArray) (p : Nat) : ByteArray := T.extract p (p + 3)
def depthN (d : Int) : Nat := (mn (mx d 0) 1000).toNat
def thB (T : ByteArray) (a : Nat) (p : Nat) : Bool := decide (three T p = three T a)
def found (T : ByteArray) (rs : List Nat) (a : Nat) (d : Int) : Int × Int := Pl.look (sm T) (thB T a) a rs (depthN d) (0, 0)
theorem th_hsh (T : ByteArray) (a p : Nat) (h : thB T a p = true) : (hsh T p == hsh T a) = true := by
  have := of_decide_eq_true h
  unfold three at this
  unfold hsh
  rw [this]
  simp
set_option maxRecDepth 100000 in
set_option maxHeartbeats 4000000 in
theorem find_any (a : Nat) (ha : a + 3 ≤ T.size) (d : Int) (rs : List Nat) (hrs : ∀ p ∈ rs, p + 3 ≤ T.size) (hC : Chains (hsh T) rs hs ah) (x : FinderAt w g gh ga gn T hs ah nt) :
    Calls Try.prog 10 #[.pointer (some ⟨g, 0, none⟩), .int .i64 a, .int .i64 d] w fun e w' => e = .returned (.tuple #[.int .i64 (found T rs a d).1, .int .i64 (found T rs a d).2]) ∧ Drawn0 w w' := by
  have HX := Aside0.mk x
  have hsm := x.small
  have HR : Aside0 (rightB T.size a = true) := ⟨by unfold rightB; exact decide_eq_true (by omega)⟩
  have hcase : (d < 0 ∧ depthN d = 0) ∨ (0 ≤ d ∧ d ≤ 1000 ∧ (depthN d : Int) = d) ∨ (1000 < d ∧ depthN d = 1000) := by
    unfold depthN mn mx
    (repeat' split) <;> omega
  obtain ⟨D, hD⟩ : ∃ D : Nat, depthN d = D := ⟨_, rfl⟩
  have hl := hsh_lt T a
  have HCH : Aside0 (hs.getD (hsh T a) 0 = hd (rs.filter fun p => hsh T p == hsh T a) ∧ Walks ah (rs.filter fun p => hsh T p == hsh T a) ∧ found T rs a d = Pl.look (sm T) (thB T a) a (rs.filter fun p => hsh T p == hsh T a) D (0, 0) ∧ ∀ p ∈ (rs.filter fun p => hsh T p == hsh T a), p + 3 ≤ T.size) := ⟨hC.heads _ hl, hC.walks _ hl, by
    rw [look_filter _ _ _ _ (fun p hp => th_hsh T a p hp)]
    unfold found
    rw [hD], fun p hp => hrs p (List.mem_filter.1 hp).1⟩
  have HDE := Aside0.mk hD
  rw [hD] at hcase
  clear hD hC hrs hl x
  go_enter Try.func10, Try.ntmps10
  go_wp2_with fail
  refine (right_any a (by omega) HX.out).mono ?_
  rintro e w1 ⟨rfl, rfl⟩
  rw [HR.out]
  clear HR
  have c0 : w.cell? ⟨g, 0, none⟩ = some (.string T) := (blk_cell HX.out.box 0).trans rfl
  have c1 : w.cell? ⟨g, 1, none⟩ = some (.slice (some ⟨gh, 0, none⟩) 1024 1024) := (blk_cell HX.out.box 1).trans rfl
  obtain ⟨h, hh⟩ : ∃ h, hsh T a = h := ⟨_, rfl⟩
  have hlt : h < 1024 := hh ▸ hsh_lt T a
  have HHS : Aside0 (∀ n, Calls Try.prog 16 #[.pointer (some ⟨g, 0, none⟩), .int .i64 a] (w.drewN n) fun e w' => e = .returned (.int .i64 h) ∧ Drawn0 (w.drewN n) w') := ⟨fun n => by
    have := hash_any (w := w.drewN n) a ha (HX.out.below (Drawn0.below ⟨⟨n, rfl⟩⟩))
    rwa [hh] at this⟩
  have e1 : w.cell? ⟨gh, h, none⟩ = some (.int .i64 (hs.getD h 0)) := HX.out.heads.cell h 0 (by rw [HX.out.hl]; exact hlt)
  rw [hh] at HCH
  have HH := Aside0.mk hh
  clear hh
  rw [HCH.out.1] at e1
  obtain ⟨ch, hch⟩ : ∃ ch, (rs.filter fun p => hsh T p == h) = ch := ⟨_, rfl⟩
  rw [hch] at HCH e1
  clear hch
  rcases hcase with ⟨q1, q2⟩ | ⟨q1, q2, q3⟩ | ⟨q1, q2⟩
  all_goals
    go_wp2
    go_quiet ((go_at_call 16; exact q_drawn (HHS.out _)))
    go_wp2_with fail
    go_loopg [2, 8, 9, 11] ch.length (fun gk x y z u wr => ∃ (c : List Nat) (k : Nat) (o n : Int), Aside0 (c.length = gk) ∧ x = .int .i64 (k : Int) ∧ y = .int .i64 o ∧ z = .int .i64 n ∧ u = .int .i64 (hd c) ∧ Aside0 (Pl.look (sm T) (thB T a) a c k (o, n) = found T rs a d ∧ Walks ah c ∧ (∀ p ∈ c, p + 3 ≤ T.size) ∧ k ≤ 1000) ∧ Aside0 (Drawn0 w wr))
    case atStart => exact ⟨ch, D, 0, 0, ⟨rfl⟩, by first | rfl | (rw [q3]) | (rw [q2]; rfl), rfl, rfl, rfl, ⟨HCH.out.2.2.1.symm, HCH.out.2.1, HCH.out.2.2.2, by omega⟩, ⟨Drawn0.step (Drawn0.refl _) _⟩⟩
    case round =>
      clear e1 c1 c0
      try clear q1 q2
      try clear q3
      obtain ⟨c, k, o, n, HK, rfl, rfl, rfl, rfl, HI, HD⟩ := hrel
      have HXW := Aside0.mk (HX.out.below HD.out.below)
      have hk0 := HI.out.2.2.2
      have cx0 : wr.cell? ⟨g, 0, none⟩ = some (.string T) := (blk_cell HXW.out.box 0).trans rfl
      have cx2 : wr.cell? ⟨g, 2, none⟩ = some (.slice (some ⟨ga, 0, none⟩) T.size T.size) := (blk_cell HXW.out.box 2).trans rfl
      match c with
      | [] =>
        have HEND : Aside0 (found T rs a d = (o, n)) := ⟨by rw [← HI.out.1]; rfl⟩
        have hm1 : hd [] = -1 := rfl
        rw [hm1]
        go_wp2
        go_ret2
        rw [HEND.out]
        exact ⟨rfl, HD.out⟩
      | p :: c =>
        have hp := HI.out.2.2.1 p (List.mem_cons_self ..)
        have hpa : wr.cell? ⟨ga, p, none⟩ = some (.int .i64 (hd c)) := by
          rw [HXW.out.ahead.cell p 0 (by rw [HXW.out.al]; omega), HI.out.2.1.1]
        have hm1 : hd (p :: c) = (p : Int) := rfl
        rw [hm1]
        have hpm : ((p : Int) == -1) = false := by first | (simp; done) | (simp; omega)
        have hpm' : ((p : Int) != -1) = true := by first | (simp; done) | (simp; omega)
        match k with
        | 0 =>
          have HEND : Aside0 (found T rs a d = (o, n)) := ⟨by rw [← HI.out.1]; rfl⟩
          go_wp2
          go_ret2
          rw [HEND.out]
          exact ⟨rfl, HD.out⟩
        | k + 1 =>
          have hkp : (0 : Int) < ((k + 1 : Nat) : Int) := by omega
          have HW2 : Aside0 (Walks ah c ∧ ∀ p ∈ c, p + 3 ≤ T.size) := ⟨HI.out.2.1.2, fun q hq => HI.out.2.2.1 q (List.mem_cons_of_mem _ hq)⟩
          by_cases ht : three T p = three T a
          · have hst : ((T.extract p (p + 3)).toList == (T.extract a (a + 3)).toList) = true := by rw [str_beq]; exact decide_eq_true ht
            have HL : Aside0 (found T rs a d = Pl.look (sm T) (thB T a) a c k (upd (sm T) a (o, n) p)) := ⟨by
              rw [← HI.out.1]
              simp only [Pl.look]
              rw [if_pos (show thB T a p = true from decide_eq_true ht)]⟩
            have HT := Aside0.mk ht
            clear ht
            by_cases hge : a ≤ p
            · have HU : Aside0 (upd (sm T) a (o, n) p = (o, n)) := ⟨by unfold upd; rw [if_pos hge]⟩
              go_wp2
              go_roundg (gk - 1)
              case measure => have := HK.out; simp at this; omega
              case rel => exact ⟨c, k, o, n, ⟨by have := HK.out; simp at this; omega⟩, by go_num, rfl, rfl, rfl, ⟨by rw [HL.out, HU.out], HW2.out.1, HW2.out.2, by omega⟩, HD⟩
            · obtain ⟨m, hm⟩ : ∃ m, sm T p a = m := ⟨_, rfl⟩
              have HSM : Aside0 (∀ w, Calls Try.prog 14 #[.string T, .int .i64 p, .int .i64 a] w fun e w' => e = .returned (.int .i64 m) ∧ Drawn0 w w') := ⟨fun w => by
                have := same_any T p a (by omega) w
                have e : smI T p a = m := by unfold smI; rw [if_neg (by omega)]; exact hm
                rwa [e] at this⟩
              have HUE : Aside0 (upd (sm T) a (o, n) p = if n < (m : Int) ∨ ((m : Int) = n ∧ (a : Int) - (p : Int) < o) then ((a : Int) - (p : Int), (m : Int)) else (o, n)) := ⟨by unfold upd; rw [if_neg hge, hm]⟩
              have hmle : m ≤ T.size := by have := sm_le T p a (by omega); omega
              clear hm
              by_cases hn1 : n < (m : Int)
              · have HU : Aside0 (upd (sm T) a (o, n) p = ((a : Int) - (p : Int), (m : Int))) := ⟨by rw [HUE.out, if_pos (.inl hn1)]⟩
                go_wp2_with fail
                refine (HSM.out _).mono ?_
                rintro e w5 ⟨rfl, hd5⟩
                have HD5 := Aside0.mk hd5
                have HX5 := HX.out.below (below_step HD.out.below hd5.below)
                have cy2 : w5.cell? ⟨g, 2, none⟩ = some (.slice (some ⟨ga, 0, none⟩) T.size T.size) := (blk_cell HX5.box 2).trans rfl
                have hpa5 : w5.cell? ⟨ga, p, none⟩ = some (.int .i64 (hd c)) := pw_cell_below hd5.below hpa
                clear hd5 HX5
                go_wp2
                go_roundg (gk - 1)
                case measure => have := HK.out; simp at this; omega
                case rel => exact ⟨c, k, _, _, ⟨by have := HK.out; simp at this; omega⟩, by go_num, rfl, rfl, rfl, ⟨by rw [HL.out, HU.out], HW2.out.1, HW2.out.2, by omega⟩, ⟨by obtain ⟨⟨i, hi⟩⟩ := HD.out; obtain ⟨⟨j, hj⟩⟩ := HD5.out; exact ⟨i + j, by rw [hj, hi, World.drewN_drewN]⟩⟩⟩
              · by_cases hmn : (m : Int) = n
                · obtain rfl := hmn
                  by_cases hao : (a : Int) - (p : Int) < o
                  · have HU : Aside0 (upd (sm T) a (o, (m : Int)) p = ((a : Int) - (p : Int), (m : Int))) := ⟨by rw [HUE.out, if_pos (.inr ⟨rfl, hao⟩)]⟩
                    go_wp2_with fail
                    refine (HSM.out _).mono ?_
                    rintro e w5 ⟨rfl, hd5⟩
                    have HD5 := Aside0.mk hd5
                    have HX5 := HX.out.below (below_step HD.out.below hd5.below)
                    have cy2 : w5.cell? ⟨g, 2, none⟩ = some (.slice (some ⟨ga, 0, none⟩) T.size T.size) := (blk_cell HX5.box 2).trans rfl
                    have hpa5 : w5.cell? ⟨ga, p, none⟩ = some (.int .i64 (hd c)) := pw_cell_below hd5.below hpa
                    clear hd5 HX5
                    go_wp2
                    go_roundg (gk - 1)
                    case measure => have := HK.out; simp at this; omega
                    case rel => exact ⟨c, k, _, _, ⟨by have := HK.out; simp at this; omega⟩, by go_num, rfl, rfl, rfl, ⟨by rw [HL.out, HU.out], HW2.out.1, HW2.out.2, by omega⟩, ⟨by obtain ⟨⟨i, hi⟩⟩ := HD.out; obtain ⟨⟨j, hj⟩⟩ := HD5.out; exact ⟨i + j, by rw [hj, hi, World.drewN_drewN]⟩⟩⟩
                  · have HU : Aside0 (upd (sm T) a (o, (m : Int)) p = (o, (m : Int))) := ⟨by rw [HUE.out, if_neg (by omega)]⟩
                    go_wp2_with fail
                    refine (HSM.out _).mono ?_
                    rintro e w5 ⟨rfl, hd5⟩
                    have HD5 := Aside0.mk hd5
                    have HX5 := HX.out.below (below_step HD.out.below hd5.below)
                    have cy2 : w5.cell? ⟨g, 2, none⟩ = some (.slice (some ⟨ga, 0, none⟩) T.size T.size) := (blk_cell HX5.box 2).trans rfl
                    have hpa5 : w5.cell? ⟨ga, p, none⟩ = some (.int .i64 (hd c)) := pw_cell_below hd5.below hpa
                    clear hd5 HX5
                    go_wp2
                    go_roundg (gk - 1)
                    case measure => have := HK.out; simp at this; omega
                    case rel => exact ⟨c, k, _, _, ⟨by have := HK.out; simp at this; omega⟩, by go_num, rfl, rfl, rfl, ⟨by rw [HL.out, HU.out], HW2.out.1, HW2.out.2, by omega⟩, ⟨by obtain ⟨⟨i, hi⟩⟩ := HD.out; obtain ⟨⟨j, hj⟩⟩ := HD5.out; exact ⟨i + j, by rw [hj, hi, World.drewN_drewN]⟩⟩⟩
                · have hmn' : ((m : Int) == n) = false := by simpa using hmn
                  have HU : Aside0 (upd (sm T) a (o, n) p = (o, n)) := ⟨by rw [HUE.out, if_neg (by omega)]⟩
                  clear hmn
                  go_wp2_with fail
                  refine (HSM.out _).mono ?_
                  rintro e w5 ⟨rfl, hd5⟩
                  have HD5 := Aside0.mk hd5
                  have HX5 := HX.out.below (below_step HD.out.below hd5.below)
                  have cy2 : w5.cell? ⟨g, 2, none⟩ = some (.slice (some ⟨ga, 0, none⟩) T.size T.size) := (blk_cell HX5.box 2).trans rfl
                  have hpa5 : w5.cell? ⟨ga, p, none⟩ = some (.int .i64 (hd c)) := pw_cell_below hd5.below hpa
                  clear hd5 HX5
                  go_wp2
                  go_roundg (gk - 1)
                  case measure => have := HK.out; simp at this; omega
                  case rel => exact ⟨c, k, _, _, ⟨by have := HK.out; simp at this; omega⟩, by go_num, rfl, rfl, rfl, ⟨by rw [HL.out, HU.out], HW2.out.1, HW2.out.2, by omega⟩, ⟨by obtain ⟨⟨i, hi⟩⟩ := HD.out; obtain ⟨⟨j, hj⟩⟩ := HD5.out; exact ⟨i + j, by rw [hj, hi, World.drewN_drewN]⟩⟩⟩
          · have hst : ((T.extract p (p + 3)).toList == (T.extract a (a + 3)).toList) = false := by rw [str_beq]; exact decide_eq_false ht
            have HL : Aside0 (found T rs a d = Pl.look (sm T) (thB T a) a c (k + 1) (o, n)) := ⟨by
              rw [← HI.out.1]
              simp only [Pl.look]
              rw [if_neg (show ¬ thB T a p = true from fun h => ht (of_decide_eq_true h))]⟩
            have HT := Aside0.mk ht
            clear ht
            go_wp2
            go_roundg (gk - 1)
            case measure => have := HK.out; simp at this; omega
            case rel => exact ⟨c, k + 1, o, n, ⟨by have := HK.out; simp at this; omega⟩, rfl, rfl, rfl, rfl, ⟨HL.out.symm, HW2.out.1, HW2.out.2, hk0⟩, HD⟩
end Go.Proofs.Ytfijbhacobjjgaa
