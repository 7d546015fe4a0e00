/- The contract of the document's pairs. -/
import Derived.Test.YtfijbhacobjjgafProg
import Derived.Test.YtfijbhacobjjgafVals
import Derived.Test.YtfijbhacobjjgafWLast
import Derived.Test.YtfijbhacobjjgafWMore
import Derived.RegionTactic
import Derived.ChangeAlike
import Derived.BigRegion
import Derived.WalkLawsBesides
import Derived.WalkSpells
import Derived.Deep.LoopGhost
import Derived.Deep.QuietTactic
import Derived.BigQuiet
import Derived.OwnWalk
import Derived.Test.YtfijbhacobjjgafJoinA
import Derived.Test.YtfijbhacobjjgafSteadyT
namespace Go.Proofs.Ytfijbhacobjjgaf
open Go.RowKit Go.Proofs.YtfijbhacobjjgafW.PrintWords Go.Proofs.YtfijbhacobjjgafW.PrintLast Go.Proofs.YtfijbhacobjjgafW.PrintMore Go.Proofs.Ytfijbhacobjjgaf.Fr
set_option linter.unusedVariables false
set_option linter.unusedSimpArgs false
attribute [local go_sem] max2_int min2_int max_two min_two

open Pl
/-- The number ahead of a place. -/
def prv (l : List Int) (i : Nat) : Option Int := if i = 0 then none else some (l.getD (i - 1) 0)
theorem prv_succ (l : List Int) (i : Nat) : prv l (i + 1) = some (l.getD i 0) := rfl
theorem dq_len (l : List Int) : ∀ p, (dq p l).length ≤ l.length := by
  induction l with
  | nil => intro p; simp [dq]
  | cons x r ih =>
    intro p
    unfold dq
    split
    · have := ih (some x); simp; omega
    · have := ih (some x); simp; omega
theorem dropD (l : List Int) (i : Nat) (h : i < l.length) : l.drop i = l.getD i 0 :: l.drop (i + 1) := by
  rw [List.drop_eq_getElem_cons h]
  congr 1
  rw [List.getD_eq_getElem?_getD, List.getElem?_eq_getElem h]
  rfl
set_option maxRecDepth 100000 in
set_option maxHeartbeats 1000000 in
theorem refpairs_any (A : Option Addr) (n c : Nat) (l : List Int) (hl : l.length = n) (hn : n ≤ 1000) (w0 : World) (hR : RdK .i64 w0 A l) (hx : ∀ i, i < n → -9223372036854775808 ≤ l.getD i 0 ∧ l.getD i 0 < 4611686018427387904) : Calls Try.prog 11 #[.slice A n c] w0 (JoinPost (dq none l) w0) := by
  have HR := Aside0.mk hR
  have HX := Aside0.mk hx
  have HL := Aside0.mk hl
  obtain ⟨RES, hRES⟩ : ∃ RES, dq none l = RES := ⟨_, rfl⟩
  have HI0 : Aside0 (0 + n = n ∧ [] ++ dq (prv l 0) (l.drop 0) = RES ∧ ([] : List (Int × Int)).length ≤ 0) := ⟨Nat.zero_add _, hRES, Nat.le_refl _⟩
  rw [hRES]
  clear hR hx hl hRES
  go_enter Try.func11, Try.ntmps11
  go_wp2
  go_loopg [3, 4, 5] n (fun gk x3 x4 x5 wr => ∃ (i : Nat) (o : List (Int × Int)), x4 = .int .i64 i ∧ Aside0 (i + gk = n ∧ o ++ dq (prv l i) (l.drop i) = RES ∧ o.length ≤ i) ∧ Aside0 (PR w0.heap.size wr x3 o ∧ Below w0.heap.size w0 wr))
  case atStart => exact ⟨0, [], rfl, HI0, ⟨⟨rfl, .inl ⟨rfl, rfl⟩⟩, Below.refl _ _⟩⟩
  case round =>
    clear HI0
    obtain ⟨i, o, rfl, HI, HP⟩ := hrel
    obtain ⟨gi, hgk⟩ : ∃ gi, gi = gk := ⟨_, rfl⟩
    subst hgk
    by_cases hlt : i < n
    · have h1 : (i : Int) < n := by omega
      have hi0 : (0 : Int) ≤ i := by omega
      obtain ⟨ad, rfl, hcell0⟩ := HR.out i (by have := HL.out; omega)
      have hcell := pw_cell_below HP.out.2 hcell0
      obtain ⟨x, hxe⟩ : ∃ x, l.getD i 0 = x := ⟨_, rfl⟩
      have HXE := Aside0.mk hxe
      have hxb := HX.out i hlt
      have HDQ : Aside0 (o ++ dq (prv l i) (x :: l.drop (i + 1)) = RES) := ⟨by
        have := HI.out.2.1
        rwa [dropD l i (by have := HL.out; omega), hxe] at this⟩
      rw [hxe] at hcell hxb
      obtain ⟨hxa, hxb⟩ := hxb
      clear hcell0 hxe
      by_cases hhit : 0 < i ∧ l.getD (i - 1) 0 + 1 = x
      · obtain ⟨j, hj⟩ : ∃ j, i = j + 1 := ⟨i - 1, by have := hhit.1; omega⟩
        have hh := hhit.2
        rw [hj, Nat.add_sub_cancel] at hh
        obtain ⟨ad2, e2, hcell0⟩ := HR.out j (by have := HL.out; omega)
        cases e2
        have hcelj := pw_cell_below HP.out.2 hcell0
        have hyb := HX.out j (by omega)
        have HDN : Aside0 (o ++ dq (some x) (l.drop (i + 1)) = RES) := ⟨by
          have := HDQ.out
          rw [hj, prv_succ] at this
          unfold dq at this
          rw [if_pos (show (some (l.getD j 0)).map (· + 1) = some x by rw [← hh]; rfl)] at this
          rw [hj]
          exact this⟩
        obtain ⟨y, hye⟩ : ∃ y, l.getD j 0 = y := ⟨_, rfl⟩
        rw [hye] at hh hcelj hyb
        have hya := hyb.1
        have hyb := hyb.2
        have hgi : decide (0 < i) = true := decide_eq_true hhit.1
        have hwj : IntKind.i64.wrap ((i : Int) - 1) = (j : Int) := by rw [IntKind.wrap_i64]; omega
        have hj0 : (0 : Int) ≤ j := by omega
        have hjn : (j : Int) < n := by omega
        have hwy : IntKind.i64.wrap (y + 1) = y + 1 := by rw [IntKind.wrap_i64]; omega
        have hyx : (y + 1 == x) = true := beq_iff_eq.2 hh
        clear hj hhit hh hcell0 hye
        go_wp2
        go_quiet (fail)
        clear hwj hwy hyx
        go_wp2
        go_roundg (gi - 1)
        case measure => have := HI.out.1; omega
        case rel => exact ⟨i + 1, o, by go_num, ⟨by have := HI.out.1; omega, by rw [prv_succ, HXE.out]; exact HDN.out, by have := HI.out.2.2; omega⟩, ⟨HP.out.1, pw_below_drewN HP.out.2 _⟩⟩
      · have HDN : Aside0 ((o ++ [(x, ru x (l.drop (i + 1)) + 1)]) ++ dq (some x) (l.drop (i + 1)) = RES) := ⟨by
          have := HDQ.out
          unfold dq at this
          rw [if_neg (fun e => hhit (by
            unfold prv at e
            by_cases h0 : i = 0
            · rw [if_pos h0] at e; cases e
            · rw [if_neg h0] at e
              exact ⟨by omega, by simpa using e⟩))] at this
          rw [List.append_assoc]
          exact this⟩
        have hd : (¬ 0 < i) ∨ (0 < i ∧ ¬ l.getD (i - 1) 0 + 1 = x) := by
          by_cases h0 : 0 < i
          · exact .inr ⟨h0, fun e => hhit ⟨h0, e⟩⟩
          · exact .inl h0
        clear hhit HDQ
        rcases hd with hd | ⟨hd, hd2⟩
        · have hgi : decide (0 < i) = false := decide_eq_false hd
          clear hd
          go_wp2
          go_quiet (fail)
          have HP1 : Aside0 (PR w0.heap.size (wr.drewN nq) u3 o ∧ Below w0.heap.size w0 (wr.drewN nq)) := ⟨HP.out.1, pw_below_drewN HP.out.2 nq⟩
          have hcell1 : (wr.drewN nq).cell? (ad.add i) = some (.int .i64 x) := hcell
          clear hcell
          generalize wr.drewN nq = wv at HP1 hcell1 ⊢
          go_wp2
          go_loopg [5] (n - i) (fun gk x5 wr2 => ∃ k : Nat, x5 = .int .i64 k ∧ Aside0 (k + gk = n ∧ i ≤ k ∧ k < n ∧ ru x (l.drop (i + 1)) = ru (l.getD k 0) (l.drop (k + 1))) ∧ Aside0 (Drawn0 wv wr2))
          case atStart => exact ⟨i, rfl, ⟨by omega, Nat.le_refl _, hlt, by rw [HXE.out]⟩, ⟨Drawn0.refl _⟩⟩
          case round =>
            obtain ⟨k, rfl, HQ, HD⟩ := hrel
            obtain ⟨ak, e2, hck0⟩ := HR.out k (by have := HL.out; have := HQ.out.2.2.1; omega)
            cases e2
            have hck : wr.cell? (ad.add k) = some (.int .i64 (l.getD k 0)) := by obtain ⟨⟨nq, rfl⟩⟩ := HD.out; exact pw_cell_below HP1.out.2 hck0
            have hyb := HX.out k HQ.out.2.2.1
            obtain ⟨y, hye⟩ : ∃ y, l.getD k 0 = y := ⟨_, rfl⟩
            have HYE := Aside0.mk hye
            rw [hye] at hck hyb
            have hya := hyb.1
            have hyb := hyb.2
            have hwk : IntKind.i64.wrap ((k : Int) + 1) = ((k + 1 : Nat) : Int) := by have := HQ.out.2.2.1; rw [IntKind.wrap_i64]; omega
            have hwy : IntKind.i64.wrap (y + 1) = y + 1 := by rw [IntKind.wrap_i64]; omega
            have hkn : k < n := HQ.out.2.2.1
            obtain ⟨k1, hk1⟩ : ∃ k1, k + 1 = k1 := ⟨_, rfl⟩
            rw [hk1] at hwk
            have HK1 := Aside0.mk hk1
            have hk0 : (0 : Int) ≤ k := by omega
            have hkni : (k : Int) < n := by omega
            clear hck0 hye
            by_cases hlt1 : k1 < n
            · obtain ⟨ak, e2, hck0⟩ := HR.out k1 (by have := HL.out; omega)
              cases e2
              have hck1 : wr.cell? (ad.add k1) = some (.int .i64 (l.getD k1 0)) := by obtain ⟨⟨nq, rfl⟩⟩ := HD.out; exact pw_cell_below HP1.out.2 hck0
              have HRU : Aside0 (ru y (l.drop k1) = if y + 1 = l.getD k1 0 then ru (l.getD k1 0) (l.drop (k1 + 1)) else y) := ⟨by rw [dropD l k1 (by have := HL.out; omega)]; rfl⟩
              have hgk : decide (k1 < n) = true := decide_eq_true hlt1
              have hk10 : (0 : Int) ≤ k1 := by omega
              have hk1n : (k1 : Int) < n := by omega
              obtain ⟨z, hz⟩ : ∃ z, l.getD k1 0 = z := ⟨_, rfl⟩
              have HZ := Aside0.mk hz
              rw [hz] at hck1 HRU
              clear hck0 hz hk1
              by_cases hyz : y + 1 = z
              · have hb : (y + 1 == z) = true := beq_iff_eq.2 hyz
                have HRN : Aside0 (ru x (l.drop (i + 1)) = ru (l.getD k1 0) (l.drop (k1 + 1))) := ⟨by rw [HQ.out.2.2.2, HYE.out, HK1.out, HRU.out, if_pos hyz, HZ.out]⟩
                clear hyz
                go_wp2
                go_quiet (fail)
                clear hwk hwy hb
                go_wp2
                go_roundg (gk - 1)
                case measure => have := HQ.out; omega
                case rel => exact ⟨k1, by rw [← HK1.out]; go_num, ⟨by have := HQ.out; have := HK1.out; omega, by have := HQ.out; have := HK1.out; omega, hlt1, HRN.out⟩, ⟨Drawn0.step HD.out _⟩⟩
              · have hb : (y + 1 == z) = false := beq_eq_false_iff_ne.2 hyz
                have HRU2 : Aside0 (ru x (l.drop (i + 1)) = y) := ⟨by rw [HQ.out.2.2.2, HYE.out, HK1.out, HRU.out, if_neg hyz]⟩
                clear hyz
                go_wp2
                go_quiet (fail)
                clear hwk hb hck1
                have HDW : Aside0 (Drawn0 wv (wr.drewN nq)) := ⟨Drawn0.step HD.out _⟩
                have hckw : (wr.drewN nq).cell? (ad.add k) = some (.int .i64 y) := hck
                clear hck HD
                generalize wr.drewN nq = wr at HDW hckw ⊢
                have HD := HDW
                have hcelx : wr.cell? (ad.add i) = some (.int .i64 x) := by obtain ⟨⟨nq, rfl⟩⟩ := HD.out; exact hcell1
                have HP2 : Aside0 (PR w0.heap.size wr.drew u3 o ∧ Below w0.heap.size w0 wr.drew) := ⟨by obtain ⟨⟨nq, rfl⟩⟩ := HD.out; exact ⟨HP1.out.1, below_drew (pw_below_drewN HP1.out.2 nq)⟩⟩
                have HDE : Aside0 ((o ++ [(x, y + 1)]) ++ dq (some x) (l.drop (i + 1)) = RES) := ⟨by rw [← HRU2.out]; exact HDN.out⟩
                obtain ⟨Av, cv, hv, hcv1, hcv2, _⟩ := HP2.out.1.shape
                have hsz := HP2.out.2.size
                have hol : o.length ≤ 1000 := by have := HI.out.2.2; omega
                have hin1 : (i : Int) < n := by omega
                have hkn1 : (k : Int) < n := by omega
                have hk00 : (0 : Int) ≤ k := by omega
                have HX9 := Aside0.mk hcelx
                have HK9 := Aside0.mk hckw
                have HPW : Aside0 (PR w0.heap.size wr u3 o ∧ Below w0.heap.size w0 wr) := ⟨by obtain ⟨⟨nq, rfl⟩⟩ := HD.out; exact ⟨HP1.out.1, pw_below_drewN HP1.out.2 nq⟩⟩
                have hsz := HPW.out.2.size
                clear HP HP1 hcell1 hv hcv1 hcv2 HP2 hcelx hckw HD HDW
                go_wp2
                refine St.steadyW (n := 14) (by kernel_rfl) ([] :: [] :: [] :: [(1, 49), (2, 50)] :: [(3, 51)] :: [] :: [] :: [(5, 53), (6, 54)] :: [(7, 55)] :: [(8, 56)] :: [(4, 52), (9, 57)] :: [(10, 58)] :: [(0, 48), (11, 59)] :: [(12, 60)] :: []) (some 48 :: some 49 :: some 50 :: some 51 :: some 52 :: some 53 :: some 54 :: some 55 :: some 56 :: some 57 :: some 58 :: some 59 :: some 60 :: some 3 :: []) (by kernel_rfl) 12 (0 :: 0 :: 0 :: 0 :: 0 :: 0 :: 0 :: 0 :: 0 :: 0 :: 0 :: 0 :: 1 :: 2 :: []) (by kernel_rfl) rfl (by decide) ((St.eqT ?c9_0x4) :: (St.eqT ?c9_1x4) :: (St.eqT ?c9_2x4) :: (St.eqT ?c9_3x4) :: (St.eqT ?c9_4x4) :: (St.eqT ?c9_5x4) :: (St.eqT ?c9_6x4) :: (St.eqT ?c9_7x4) :: (St.eqT ?c9_8x4) :: (St.eqT ?c9_9x4) :: (St.eqT ?c9_10x4) :: (fun _ v w => ∃ b, v = .slice (some ⟨b, 0, none⟩) 1 1 ∧ w.heap[b]? = some (.cells #[.int .i64 x, .int .i64 (y + 1)] 32 (0, 0)) ∧ some b ≠ u3.ownBlock) :: (fun _ v w => w.ownsRow w0.heap.size 32 2 v (o.length + 1) (pcs o ++ [.int .i64 x, .int .i64 (y + 1)])) :: (fun ds v w => v = ds.getD 0 undef) :: []) rfl (by rfl) (fun w' => Below wr.heap.size wr w') (fun w w' => Below w.heap.size w w') (fun w w' => w.grownBy w' u3.ownBlock) (fun w' => Below w0.heap.size w0 w') (fun w w' => w = w') ?hst ?h0 ?hB ?hC ?hop ?hend
                case hop =>
                  refine ⟨?_, ?_, ?_, ?_, ?_, ?_, ?_, ?_, ?_, ?_, ?_, ?_, ?_, ?_, trivial⟩
                  · intro w hB
                    simp only [St.withD]
                    refine St.ob_value (v := ?_) (w' := w) (by rfl) ?_ ⟨Below.refl _ _, ?_⟩
                    rotate_left
                    · go_simp
                      with_reducible rfl
                    · rfl
                  · intro w hB
                    simp only [St.withD]
                    refine St.ob_value (v := ?_) (w' := w) (by rfl) ?_ ⟨Below.refl _ _, ?_⟩
                    rotate_left
                    · go_simp
                      with_reducible rfl
                    · rfl
                  · intro w hB
                    simp only [St.withD]
                    refine St.ob_value (v := ?_) (w' := w) (by rfl) ?_ ⟨Below.refl _ _, ?_⟩
                    rotate_left
                    · go_simp
                      with_reducible rfl
                    · rfl
                  · intro w hB; rintro _ ⟨_, rfl⟩ _ ⟨_, rfl⟩
                    simp only [St.withD, List.nil_append, List.cons_append, Act.put, List.setIfInBounds_toArray, List.set_cons_zero, List.set_cons_succ]
                    refine St.ob_value (v := ?_) (w' := w) (by rfl) ?_ ⟨Below.refl _ _, ?_⟩
                    rotate_left
                    · go_simp
                      with_reducible rfl
                    · rfl
                  · intro w hB; rintro _ ⟨_, rfl⟩
                    simp only [St.withD, List.nil_append, List.cons_append, Act.put, List.setIfInBounds_toArray, List.set_cons_zero, List.set_cons_succ]
                    have c0 : w.cell? (ad.add i) = some (.int .i64 x) := pw_cell_below hB HX9.out
                    have c1 : w.cell? (ad.add k) = some (.int .i64 y) := pw_cell_below hB HK9.out
                    refine St.ob_value (v := ?_) (w' := w) (by rfl) ?_ ⟨Below.refl _ _, ?_⟩
                    rotate_left
                    · go_simp
                      with_reducible rfl
                    · rfl
                  · intro w hB
                    simp only [St.withD]
                    refine St.ob_value (v := ?_) (w' := w) (by rfl) ?_ ⟨Below.refl _ _, ?_⟩
                    rotate_left
                    · go_simp
                      with_reducible rfl
                    · rfl
                  · intro w hB
                    simp only [St.withD]
                    refine St.ob_value (v := ?_) (w' := w) (by rfl) ?_ ⟨Below.refl _ _, ?_⟩
                    rotate_left
                    · go_simp
                      with_reducible rfl
                    · rfl
                  · intro w hB; rintro _ ⟨_, rfl⟩ _ ⟨_, rfl⟩
                    simp only [St.withD, List.nil_append, List.cons_append, Act.put, List.setIfInBounds_toArray, List.set_cons_zero, List.set_cons_succ]
                    refine St.ob_value (v := ?_) (w' := w) (by rfl) ?_ ⟨Below.refl _ _, ?_⟩
                    rotate_left
                    · go_simp
                      with_reducible rfl
                    · rfl
                  · intro w hB; rintro _ ⟨_, rfl⟩
                    simp only [St.withD, List.nil_append, List.cons_append, Act.put, List.setIfInBounds_toArray, List.set_cons_zero, List.set_cons_succ]
                    have c0 : w.cell? (ad.add i) = some (.int .i64 x) := pw_cell_below hB HX9.out
                    have c1 : w.cell? (ad.add k) = some (.int .i64 y) := pw_cell_below hB HK9.out
                    refine St.ob_value (v := ?_) (w' := w) (by rfl) ?_ ⟨Below.refl _ _, ?_⟩
                    rotate_left
                    · go_simp
                      with_reducible rfl
                    · rfl
                  · intro w hB; rintro _ ⟨_, rfl⟩
                    simp only [St.withD, List.nil_append, List.cons_append, Act.put, List.setIfInBounds_toArray, List.set_cons_zero, List.set_cons_succ]
                    refine St.ob_value (v := ?_) (w' := w) (by rfl) ?_ ⟨Below.refl _ _, ?_⟩
                    rotate_left
                    · go_simp
                      with_reducible rfl
                    · rfl
                  · intro w hB; rintro _ ⟨_, rfl⟩ _ ⟨_, rfl⟩
                    simp only [St.withD, List.nil_append, List.cons_append, Act.put, List.setIfInBounds_toArray, List.set_cons_zero, List.set_cons_succ]
                    refine St.ob_value (v := ?_) (w' := w) (by rfl) ?_ ⟨Below.refl _ _, ?_⟩
                    rotate_left
                    · go_simp
                      with_reducible rfl
                    · rfl
                  · intro w hB; rintro _ ⟨_, rfl⟩
                    simp only [St.withD, List.nil_append, List.cons_append, Act.put, List.setIfInBounds_toArray, List.set_cons_zero, List.set_cons_succ]
                    refine St.ob_value (v := .slice (some ⟨w.heap.size, 0, none⟩) 1 1) (w' := w.alloc (.cells #[.int .i64 x, .int .i64 (y + 1)] 32 (0, 0))) (by rfl) (by go_simp) ⟨below_alloc (Below.refl _ _) _, ⟨_, rfl, blk_new w _, fun e => by have := own_lt HPW.out.1 w.heap.size e.symm; have := hB.size; omega⟩⟩
                  · intro w hB; rintro v0 ⟨ds0, hv0⟩ v11 ⟨ds11, ht11⟩
                    simp only [St.withD, List.nil_append, List.cons_append, Act.put, List.setIfInBounds_toArray, List.set_cons_zero, List.set_cons_succ]
                    have hv0 : u3 = v0 := hv0.symm
                    subst hv0
                    obtain ⟨b, rfl, hbk, _⟩ := ht11
                    have hrow : w.ownsRow w0.heap.size 32 2 u3 o.length (pcs o) := (Ch.of_below (S := fun _ => False) hB).own HPW.out.1 (fun _ _ h => h)
                    obtain ⟨v1, w2, hrun, hown, hgr⟩ := ap_many (P := Try.prog) (t := 30) (ty := 30) Try.underlying30 info32 (by rfl) (by decide) (by decide) hrow (ys := [.int .i64 x, .int .i64 (y + 1)]) hbk rfl (by simp [Value.oneCell']) (by have := hB.size; omega) (by omega)
                    exact St.ob_value (v := v1) (w' := w2) (by rfl) (append_op rfl (by rfl) (by rfl) hrun) ⟨⟨hgr, (HPW.out.2.trans (hB.mono hsz)).grown hgr (by have := hB.size; omega) (fun k hk => own_blk HPW.out.1 k hk)⟩, hown⟩
                  · intro w hB; rintro v12 ⟨ds12, ht12⟩
                    simp only [St.withD, List.nil_append, List.cons_append, Act.put, List.setIfInBounds_toArray, List.set_cons_zero, List.set_cons_succ]
                    refine St.ob_value (v := v12) (w' := w) (by rfl) ?_ ⟨rfl, rfl⟩
                    go_simp
                case hst => exact ⟨St.eqT_st, St.eqT_st, St.eqT_st, St.eqT_st, St.eqT_st, St.eqT_st, St.eqT_st, St.eqT_st, St.eqT_st, St.eqT_st, St.eqT_st, fun ds v w w' h hR => by (obtain ⟨b, e1, e2, e3⟩ := h; rcases hR with ⟨_, hR | ⟨hR, _⟩⟩ | hR; exact ⟨b, e1, blk_below e2 hR, e3⟩; exact ⟨b, e1, blk_grown e2 hR e3, e3⟩; (subst hR; exact ⟨b, e1, e2, e3⟩)), fun ds v w w' h hR => by (rcases hR with ⟨hk, _⟩ | hR; (exact absurd hk (by decide)); (subst hR; exact h)), fun ds v w w' h hR => by exact h, trivial⟩
                case h0 => exact below_drew1 (Below.refl _ _)
                case hB => exact fun w w' h k => below_step h k
                case hC => (intro w w' h e; subst e; exact h)
                case hend =>
                  intro w hB
                  rintro v0 hv0 _ rfl _ rfl _ rfl _ rfl _ rfl _ rfl _ rfl _ rfl _ rfl _ rfl v11 ht11 v12 ht12 v13 ht13
                  simp only [List.map_cons, List.map_nil, List.nil_append, List.cons_append, List.getD_cons_zero, List.getD_cons_succ, Act.put, List.setIfInBounds_toArray, List.set_cons_zero, List.set_cons_succ]
                  rw [St.withE_nil]
                  have hv0 : u3 = v0 := hv0.symm
                  subst hv0
                  have HW1 : Aside0 (w.ownsRow w0.heap.size 32 2 v12 (o.length + 1) (pcs o ++ [.int .i64 x, .int .i64 (y + 1)]) ∧ Below w0.heap.size w0 w) := ⟨ht12, hB⟩
                  subst ht13
                  clear ht11 ht12 hB
                  clear hwy
                  go_wp2
                  go_roundg (gi - 1)
                  case measure => have := HI.out.1; omega
                  case rel => exact ⟨i + 1, o ++ [(x, y + 1)], by go_num, ⟨by have := HI.out.1; omega, by rw [prv_succ, HXE.out]; exact HDE.out, by have := HI.out.2.2; simp; omega⟩, ⟨by
                    unfold PR
                    rw [pcs_snoc, show (o ++ [(x, y + 1)]).length = o.length + 1 by simp]
                    exact HW1.out.1, HW1.out.2⟩⟩
            · have hgk : decide (k1 < n) = false := decide_eq_false hlt1
              have HRU2 : Aside0 (ru x (l.drop (i + 1)) = y) := ⟨by
                rw [HQ.out.2.2.2, HYE.out, List.drop_eq_nil_of_le (by have := HL.out; omega)]
                rfl⟩
              clear hk1
              go_wp2
              go_quiet (fail)
              clear hwk
              have HDW : Aside0 (Drawn0 wv (wr.drewN nq)) := ⟨Drawn0.step HD.out _⟩
              have hckw : (wr.drewN nq).cell? (ad.add k) = some (.int .i64 y) := hck
              clear hck HD
              generalize wr.drewN nq = wr at HDW hckw ⊢
              have HD := HDW
              have hcelx : wr.cell? (ad.add i) = some (.int .i64 x) := by obtain ⟨⟨nq, rfl⟩⟩ := HD.out; exact hcell1
              have HP2 : Aside0 (PR w0.heap.size wr.drew u3 o ∧ Below w0.heap.size w0 wr.drew) := ⟨by obtain ⟨⟨nq, rfl⟩⟩ := HD.out; exact ⟨HP1.out.1, below_drew (pw_below_drewN HP1.out.2 nq)⟩⟩
              have HDE : Aside0 ((o ++ [(x, y + 1)]) ++ dq (some x) (l.drop (i + 1)) = RES) := ⟨by rw [← HRU2.out]; exact HDN.out⟩
              obtain ⟨Av, cv, hv, hcv1, hcv2, _⟩ := HP2.out.1.shape
              have hsz := HP2.out.2.size
              have hol : o.length ≤ 1000 := by have := HI.out.2.2; omega
              have hin1 : (i : Int) < n := by omega
              have hkn1 : (k : Int) < n := by omega
              have hk00 : (0 : Int) ≤ k := by omega
              have HX9 := Aside0.mk hcelx
              have HK9 := Aside0.mk hckw
              have HPW : Aside0 (PR w0.heap.size wr u3 o ∧ Below w0.heap.size w0 wr) := ⟨by obtain ⟨⟨nq, rfl⟩⟩ := HD.out; exact ⟨HP1.out.1, pw_below_drewN HP1.out.2 nq⟩⟩
              have hsz := HPW.out.2.size
              clear HP HP1 hcell1 hv hcv1 hcv2 HP2 hcelx hckw HD HDW
              go_wp2
              refine St.steadyW (n := 14) (by kernel_rfl) ([] :: [] :: [] :: [(1, 49), (2, 50)] :: [(3, 51)] :: [] :: [] :: [(5, 53), (6, 54)] :: [(7, 55)] :: [(8, 56)] :: [(4, 52), (9, 57)] :: [(10, 58)] :: [(0, 48), (11, 59)] :: [(12, 60)] :: []) (some 48 :: some 49 :: some 50 :: some 51 :: some 52 :: some 53 :: some 54 :: some 55 :: some 56 :: some 57 :: some 58 :: some 59 :: some 60 :: some 3 :: []) (by kernel_rfl) 12 (0 :: 0 :: 0 :: 0 :: 0 :: 0 :: 0 :: 0 :: 0 :: 0 :: 0 :: 0 :: 1 :: 2 :: []) (by kernel_rfl) rfl (by decide) ((St.eqT ?c9_0x5) :: (St.eqT ?c9_1x5) :: (St.eqT ?c9_2x5) :: (St.eqT ?c9_3x5) :: (St.eqT ?c9_4x5) :: (St.eqT ?c9_5x5) :: (St.eqT ?c9_6x5) :: (St.eqT ?c9_7x5) :: (St.eqT ?c9_8x5) :: (St.eqT ?c9_9x5) :: (St.eqT ?c9_10x5) :: (fun _ v w => ∃ b, v = .slice (some ⟨b, 0, none⟩) 1 1 ∧ w.heap[b]? = some (.cells #[.int .i64 x, .int .i64 (y + 1)] 32 (0, 0)) ∧ some b ≠ u3.ownBlock) :: (fun _ v w => w.ownsRow w0.heap.size 32 2 v (o.length + 1) (pcs o ++ [.int .i64 x, .int .i64 (y + 1)])) :: (fun ds v w => v = ds.getD 0 undef) :: []) rfl (by rfl) (fun w' => Below wr.heap.size wr w') (fun w w' => Below w.heap.size w w') (fun w w' => w.grownBy w' u3.ownBlock) (fun w' => Below w0.heap.size w0 w') (fun w w' => w = w') ?hst ?h0 ?hB ?hC ?hop ?hend
              case hop =>
                refine ⟨?_, ?_, ?_, ?_, ?_, ?_, ?_, ?_, ?_, ?_, ?_, ?_, ?_, ?_, trivial⟩
                · intro w hB
                  simp only [St.withD]
                  refine St.ob_value (v := ?_) (w' := w) (by rfl) ?_ ⟨Below.refl _ _, ?_⟩
                  rotate_left
                  · go_simp
                    with_reducible rfl
                  · rfl
                · intro w hB
                  simp only [St.withD]
                  refine St.ob_value (v := ?_) (w' := w) (by rfl) ?_ ⟨Below.refl _ _, ?_⟩
                  rotate_left
                  · go_simp
                    with_reducible rfl
                  · rfl
                · intro w hB
                  simp only [St.withD]
                  refine St.ob_value (v := ?_) (w' := w) (by rfl) ?_ ⟨Below.refl _ _, ?_⟩
                  rotate_left
                  · go_simp
                    with_reducible rfl
                  · rfl
                · intro w hB; rintro _ ⟨_, rfl⟩ _ ⟨_, rfl⟩
                  simp only [St.withD, List.nil_append, List.cons_append, Act.put, List.setIfInBounds_toArray, List.set_cons_zero, List.set_cons_succ]
                  refine St.ob_value (v := ?_) (w' := w) (by rfl) ?_ ⟨Below.refl _ _, ?_⟩
                  rotate_left
                  · go_simp
                    with_reducible rfl
                  · rfl
                · intro w hB; rintro _ ⟨_, rfl⟩
                  simp only [St.withD, List.nil_append, List.cons_append, Act.put, List.setIfInBounds_toArray, List.set_cons_zero, List.set_cons_succ]
                  have c0 : w.cell? (ad.add i) = some (.int .i64 x) := pw_cell_below hB HX9.out
                  have c1 : w.cell? (ad.add k) = some (.int .i64 y) := pw_cell_below hB HK9.out
                  refine St.ob_value (v := ?_) (w' := w) (by rfl) ?_ ⟨Below.refl _ _, ?_⟩
                  rotate_left
                  · go_simp
                    with_reducible rfl
                  · rfl
                · intro w hB
                  simp only [St.withD]
                  refine St.ob_value (v := ?_) (w' := w) (by rfl) ?_ ⟨Below.refl _ _, ?_⟩
                  rotate_left
                  · go_simp
                    with_reducible rfl
                  · rfl
                · intro w hB
                  simp only [St.withD]
                  refine St.ob_value (v := ?_) (w' := w) (by rfl) ?_ ⟨Below.refl _ _, ?_⟩
                  rotate_left
                  · go_simp
                    with_reducible rfl
                  · rfl
                · intro w hB; rintro _ ⟨_, rfl⟩ _ ⟨_, rfl⟩
                  simp only [St.withD, List.nil_append, List.cons_append, Act.put, List.setIfInBounds_toArray, List.set_cons_zero, List.set_cons_succ]
                  refine St.ob_value (v := ?_) (w' := w) (by rfl) ?_ ⟨Below.refl _ _, ?_⟩
                  rotate_left
                  · go_simp
                    with_reducible rfl
                  · rfl
                · intro w hB; rintro _ ⟨_, rfl⟩
                  simp only [St.withD, List.nil_append, List.cons_append, Act.put, List.setIfInBounds_toArray, List.set_cons_zero, List.set_cons_succ]
                  have c0 : w.cell? (ad.add i) = some (.int .i64 x) := pw_cell_below hB HX9.out
                  have c1 : w.cell? (ad.add k) = some (.int .i64 y) := pw_cell_below hB HK9.out
                  refine St.ob_value (v := ?_) (w' := w) (by rfl) ?_ ⟨Below.refl _ _, ?_⟩
                  rotate_left
                  · go_simp
                    with_reducible rfl
                  · rfl
                · intro w hB; rintro _ ⟨_, rfl⟩
                  simp only [St.withD, List.nil_append, List.cons_append, Act.put, List.setIfInBounds_toArray, List.set_cons_zero, List.set_cons_succ]
                  refine St.ob_value (v := ?_) (w' := w) (by rfl) ?_ ⟨Below.refl _ _, ?_⟩
                  rotate_left
                  · go_simp
                    with_reducible rfl
                  · rfl
                · intro w hB; rintro _ ⟨_, rfl⟩ _ ⟨_, rfl⟩
                  simp only [St.withD, List.nil_append, List.cons_append, Act.put, List.setIfInBounds_toArray, List.set_cons_zero, List.set_cons_succ]
                  refine St.ob_value (v := ?_) (w' := w) (by rfl) ?_ ⟨Below.refl _ _, ?_⟩
                  rotate_left
                  · go_simp
                    with_reducible rfl
                  · rfl
                · intro w hB; rintro _ ⟨_, rfl⟩
                  simp only [St.withD, List.nil_append, List.cons_append, Act.put, List.setIfInBounds_toArray, List.set_cons_zero, List.set_cons_succ]
                  refine St.ob_value (v := .slice (some ⟨w.heap.size, 0, none⟩) 1 1) (w' := w.alloc (.cells #[.int .i64 x, .int .i64 (y + 1)] 32 (0, 0))) (by rfl) (by go_simp) ⟨below_alloc (Below.refl _ _) _, ⟨_, rfl, blk_new w _, fun e => by have := own_lt HPW.out.1 w.heap.size e.symm; have := hB.size; omega⟩⟩
                · intro w hB; rintro v0 ⟨ds0, hv0⟩ v11 ⟨ds11, ht11⟩
                  simp only [St.withD, List.nil_append, List.cons_append, Act.put, List.setIfInBounds_toArray, List.set_cons_zero, List.set_cons_succ]
                  have hv0 : u3 = v0 := hv0.symm
                  subst hv0
                  obtain ⟨b, rfl, hbk, _⟩ := ht11
                  have hrow : w.ownsRow w0.heap.size 32 2 u3 o.length (pcs o) := (Ch.of_below (S := fun _ => False) hB).own HPW.out.1 (fun _ _ h => h)
                  obtain ⟨v1, w2, hrun, hown, hgr⟩ := ap_many (P := Try.prog) (t := 30) (ty := 30) Try.underlying30 info32 (by rfl) (by decide) (by decide) hrow (ys := [.int .i64 x, .int .i64 (y + 1)]) hbk rfl (by simp [Value.oneCell']) (by have := hB.size; omega) (by omega)
                  exact St.ob_value (v := v1) (w' := w2) (by rfl) (append_op rfl (by rfl) (by rfl) hrun) ⟨⟨hgr, (HPW.out.2.trans (hB.mono hsz)).grown hgr (by have := hB.size; omega) (fun k hk => own_blk HPW.out.1 k hk)⟩, hown⟩
                · intro w hB; rintro v12 ⟨ds12, ht12⟩
                  simp only [St.withD, List.nil_append, List.cons_append, Act.put, List.setIfInBounds_toArray, List.set_cons_zero, List.set_cons_succ]
                  refine St.ob_value (v := v12) (w' := w) (by rfl) ?_ ⟨rfl, rfl⟩
                  go_simp
              case hst => exact ⟨St.eqT_st, St.eqT_st, St.eqT_st, St.eqT_st, St.eqT_st, St.eqT_st, St.eqT_st, St.eqT_st, St.eqT_st, St.eqT_st, St.eqT_st, fun ds v w w' h hR => by (obtain ⟨b, e1, e2, e3⟩ := h; rcases hR with ⟨_, hR | ⟨hR, _⟩⟩ | hR; exact ⟨b, e1, blk_below e2 hR, e3⟩; exact ⟨b, e1, blk_grown e2 hR e3, e3⟩; (subst hR; exact ⟨b, e1, e2, e3⟩)), fun ds v w w' h hR => by (rcases hR with ⟨hk, _⟩ | hR; (exact absurd hk (by decide)); (subst hR; exact h)), fun ds v w w' h hR => by exact h, trivial⟩
              case h0 => exact below_drew1 (Below.refl _ _)
              case hB => exact fun w w' h k => below_step h k
              case hC => (intro w w' h e; subst e; exact h)
              case hend =>
                intro w hB
                rintro v0 hv0 _ rfl _ rfl _ rfl _ rfl _ rfl _ rfl _ rfl _ rfl _ rfl _ rfl v11 ht11 v12 ht12 v13 ht13
                simp only [List.map_cons, List.map_nil, List.nil_append, List.cons_append, List.getD_cons_zero, List.getD_cons_succ, Act.put, List.setIfInBounds_toArray, List.set_cons_zero, List.set_cons_succ]
                rw [St.withE_nil]
                have hv0 : u3 = v0 := hv0.symm
                subst hv0
                have HW1 : Aside0 (w.ownsRow w0.heap.size 32 2 v12 (o.length + 1) (pcs o ++ [.int .i64 x, .int .i64 (y + 1)]) ∧ Below w0.heap.size w0 w) := ⟨ht12, hB⟩
                subst ht13
                clear ht11 ht12 hB
                clear hwy
                go_wp2
                go_roundg (gi - 1)
                case measure => have := HI.out.1; omega
                case rel => exact ⟨i + 1, o ++ [(x, y + 1)], by go_num, ⟨by have := HI.out.1; omega, by rw [prv_succ, HXE.out]; exact HDE.out, by have := HI.out.2.2; simp; omega⟩, ⟨by
                  unfold PR
                  rw [pcs_snoc, show (o ++ [(x, y + 1)]).length = o.length + 1 by simp]
                  exact HW1.out.1, HW1.out.2⟩⟩
        · obtain ⟨j, hj⟩ : ∃ j, i = j + 1 := ⟨i - 1, by omega⟩
          rw [hj, Nat.add_sub_cancel] at hd2
          obtain ⟨ad2, e2, hcell0⟩ := HR.out j (by have := HL.out; omega)
          cases e2
          have hcelj := pw_cell_below HP.out.2 hcell0
          have hyb := HX.out j (by omega)
          obtain ⟨y, hye⟩ : ∃ y, l.getD j 0 = y := ⟨_, rfl⟩
          rw [hye] at hd2 hcelj hyb
          have hya := hyb.1
          have hyb := hyb.2
          have hgi : decide (0 < i) = true := decide_eq_true hd
          have hwj : IntKind.i64.wrap ((i : Int) - 1) = (j : Int) := by rw [IntKind.wrap_i64]; omega
          have hj0 : (0 : Int) ≤ j := by omega
          have hjn : (j : Int) < n := by omega
          have hwy : IntKind.i64.wrap (y + 1) = y + 1 := by rw [IntKind.wrap_i64]; omega
          have hyx : (y + 1 == x) = false := beq_eq_false_iff_ne.2 hd2
          clear hj hd2 hcell0 hye hd
          go_wp2
          go_quiet (fail)
          clear hwj hwy hyx
          have HP1 : Aside0 (PR w0.heap.size (wr.drewN nq) u3 o ∧ Below w0.heap.size w0 (wr.drewN nq)) := ⟨HP.out.1, pw_below_drewN HP.out.2 nq⟩
          have hcell1 : (wr.drewN nq).cell? (ad.add i) = some (.int .i64 x) := hcell
          clear hcell
          generalize wr.drewN nq = wv at HP1 hcell1 ⊢
          go_wp2
          go_loopg [5] (n - i) (fun gk x5 wr2 => ∃ k : Nat, x5 = .int .i64 k ∧ Aside0 (k + gk = n ∧ i ≤ k ∧ k < n ∧ ru x (l.drop (i + 1)) = ru (l.getD k 0) (l.drop (k + 1))) ∧ Aside0 (Drawn0 wv wr2))
          case atStart => exact ⟨i, rfl, ⟨by omega, Nat.le_refl _, hlt, by rw [HXE.out]⟩, ⟨Drawn0.refl _⟩⟩
          case round =>
            obtain ⟨k, rfl, HQ, HD⟩ := hrel
            obtain ⟨ak, e2, hck0⟩ := HR.out k (by have := HL.out; have := HQ.out.2.2.1; omega)
            cases e2
            have hck : wr.cell? (ad.add k) = some (.int .i64 (l.getD k 0)) := by obtain ⟨⟨nq, rfl⟩⟩ := HD.out; exact pw_cell_below HP1.out.2 hck0
            have hyb := HX.out k HQ.out.2.2.1
            obtain ⟨y, hye⟩ : ∃ y, l.getD k 0 = y := ⟨_, rfl⟩
            have HYE := Aside0.mk hye
            rw [hye] at hck hyb
            have hya := hyb.1
            have hyb := hyb.2
            have hwk : IntKind.i64.wrap ((k : Int) + 1) = ((k + 1 : Nat) : Int) := by have := HQ.out.2.2.1; rw [IntKind.wrap_i64]; omega
            have hwy : IntKind.i64.wrap (y + 1) = y + 1 := by rw [IntKind.wrap_i64]; omega
            have hkn : k < n := HQ.out.2.2.1
            obtain ⟨k1, hk1⟩ : ∃ k1, k + 1 = k1 := ⟨_, rfl⟩
            rw [hk1] at hwk
            have HK1 := Aside0.mk hk1
            have hk0 : (0 : Int) ≤ k := by omega
            have hkni : (k : Int) < n := by omega
            clear hck0 hye
            by_cases hlt1 : k1 < n
            · obtain ⟨ak, e2, hck0⟩ := HR.out k1 (by have := HL.out; omega)
              cases e2
              have hck1 : wr.cell? (ad.add k1) = some (.int .i64 (l.getD k1 0)) := by obtain ⟨⟨nq, rfl⟩⟩ := HD.out; exact pw_cell_below HP1.out.2 hck0
              have HRU : Aside0 (ru y (l.drop k1) = if y + 1 = l.getD k1 0 then ru (l.getD k1 0) (l.drop (k1 + 1)) else y) := ⟨by rw [dropD l k1 (by have := HL.out; omega)]; rfl⟩
              have hgk : decide (k1 < n) = true := decide_eq_true hlt1
              have hk10 : (0 : Int) ≤ k1 := by omega
              have hk1n : (k1 : Int) < n := by omega
              obtain ⟨z, hz⟩ : ∃ z, l.getD k1 0 = z := ⟨_, rfl⟩
              have HZ := Aside0.mk hz
              rw [hz] at hck1 HRU
              clear hck0 hz hk1
              by_cases hyz : y + 1 = z
              · have hb : (y + 1 == z) = true := beq_iff_eq.2 hyz
                have HRN : Aside0 (ru x (l.drop (i + 1)) = ru (l.getD k1 0) (l.drop (k1 + 1))) := ⟨by rw [HQ.out.2.2.2, HYE.out, HK1.out, HRU.out, if_pos hyz, HZ.out]⟩
                clear hyz
                go_wp2
                go_quiet (fail)
                clear hwk hwy hb
                go_wp2
                go_roundg (gk - 1)
                case measure => have := HQ.out; omega
                case rel => exact ⟨k1, by rw [← HK1.out]; go_num, ⟨by have := HQ.out; have := HK1.out; omega, by have := HQ.out; have := HK1.out; omega, hlt1, HRN.out⟩, ⟨Drawn0.step HD.out _⟩⟩
              · have hb : (y + 1 == z) = false := beq_eq_false_iff_ne.2 hyz
                have HRU2 : Aside0 (ru x (l.drop (i + 1)) = y) := ⟨by rw [HQ.out.2.2.2, HYE.out, HK1.out, HRU.out, if_neg hyz]⟩
                clear hyz
                go_wp2
                go_quiet (fail)
                clear hwk hb hck1
                have HDW : Aside0 (Drawn0 wv (wr.drewN nq)) := ⟨Drawn0.step HD.out _⟩
                have hckw : (wr.drewN nq).cell? (ad.add k) = some (.int .i64 y) := hck
                clear hck HD
                generalize wr.drewN nq = wr at HDW hckw ⊢
                have HD := HDW
                have hcelx : wr.cell? (ad.add i) = some (.int .i64 x) := by obtain ⟨⟨nq, rfl⟩⟩ := HD.out; exact hcell1
                have HP2 : Aside0 (PR w0.heap.size wr.drew u3 o ∧ Below w0.heap.size w0 wr.drew) := ⟨by obtain ⟨⟨nq, rfl⟩⟩ := HD.out; exact ⟨HP1.out.1, below_drew (pw_below_drewN HP1.out.2 nq)⟩⟩
                have HDE : Aside0 ((o ++ [(x, y + 1)]) ++ dq (some x) (l.drop (i + 1)) = RES) := ⟨by rw [← HRU2.out]; exact HDN.out⟩
                obtain ⟨Av, cv, hv, hcv1, hcv2, _⟩ := HP2.out.1.shape
                have hsz := HP2.out.2.size
                have hol : o.length ≤ 1000 := by have := HI.out.2.2; omega
                have hin1 : (i : Int) < n := by omega
                have hkn1 : (k : Int) < n := by omega
                have hk00 : (0 : Int) ≤ k := by omega
                have HX9 := Aside0.mk hcelx
                have HK9 := Aside0.mk hckw
                have HPW : Aside0 (PR w0.heap.size wr u3 o ∧ Below w0.heap.size w0 wr) := ⟨by obtain ⟨⟨nq, rfl⟩⟩ := HD.out; exact ⟨HP1.out.1, pw_below_drewN HP1.out.2 nq⟩⟩
                have hsz := HPW.out.2.size
                clear HP HP1 hcell1 hv hcv1 hcv2 HP2 hcelx hckw HD HDW
                go_wp2
                refine St.steadyW (n := 14) (by kernel_rfl) ([] :: [] :: [] :: [(1, 49), (2, 50)] :: [(3, 51)] :: [] :: [] :: [(5, 53), (6, 54)] :: [(7, 55)] :: [(8, 56)] :: [(4, 52), (9, 57)] :: [(10, 58)] :: [(0, 48), (11, 59)] :: [(12, 60)] :: []) (some 48 :: some 49 :: some 50 :: some 51 :: some 52 :: some 53 :: some 54 :: some 55 :: some 56 :: some 57 :: some 58 :: some 59 :: some 60 :: some 3 :: []) (by kernel_rfl) 12 (0 :: 0 :: 0 :: 0 :: 0 :: 0 :: 0 :: 0 :: 0 :: 0 :: 0 :: 0 :: 1 :: 2 :: []) (by kernel_rfl) rfl (by decide) ((St.eqT ?c9_0x6) :: (St.eqT ?c9_1x6) :: (St.eqT ?c9_2x6) :: (St.eqT ?c9_3x6) :: (St.eqT ?c9_4x6) :: (St.eqT ?c9_5x6) :: (St.eqT ?c9_6x6) :: (St.eqT ?c9_7x6) :: (St.eqT ?c9_8x6) :: (St.eqT ?c9_9x6) :: (St.eqT ?c9_10x6) :: (fun _ v w => ∃ b, v = .slice (some ⟨b, 0, none⟩) 1 1 ∧ w.heap[b]? = some (.cells #[.int .i64 x, .int .i64 (y + 1)] 32 (0, 0)) ∧ some b ≠ u3.ownBlock) :: (fun _ v w => w.ownsRow w0.heap.size 32 2 v (o.length + 1) (pcs o ++ [.int .i64 x, .int .i64 (y + 1)])) :: (fun ds v w => v = ds.getD 0 undef) :: []) rfl (by rfl) (fun w' => Below wr.heap.size wr w') (fun w w' => Below w.heap.size w w') (fun w w' => w.grownBy w' u3.ownBlock) (fun w' => Below w0.heap.size w0 w') (fun w w' => w = w') ?hst ?h0 ?hB ?hC ?hop ?hend
                case hop =>
                  refine ⟨?_, ?_, ?_, ?_, ?_, ?_, ?_, ?_, ?_, ?_, ?_, ?_, ?_, ?_, trivial⟩
                  · intro w hB
                    simp only [St.withD]
                    refine St.ob_value (v := ?_) (w' := w) (by rfl) ?_ ⟨Below.refl _ _, ?_⟩
                    rotate_left
                    · go_simp
                      with_reducible rfl
                    · rfl
                  · intro w hB
                    simp only [St.withD]
                    refine St.ob_value (v := ?_) (w' := w) (by rfl) ?_ ⟨Below.refl _ _, ?_⟩
                    rotate_left
                    · go_simp
                      with_reducible rfl
                    · rfl
                  · intro w hB
                    simp only [St.withD]
                    refine St.ob_value (v := ?_) (w' := w) (by rfl) ?_ ⟨Below.refl _ _, ?_⟩
                    rotate_left
                    · go_simp
                      with_reducible rfl
                    · rfl
                  · intro w hB; rintro _ ⟨_, rfl⟩ _ ⟨_, rfl⟩
                    simp only [St.withD, List.nil_append, List.cons_append, Act.put, List.setIfInBounds_toArray, List.set_cons_zero, List.set_cons_succ]
                    refine St.ob_value (v := ?_) (w' := w) (by rfl) ?_ ⟨Below.refl _ _, ?_⟩
                    rotate_left
                    · go_simp
                      with_reducible rfl
                    · rfl
                  · intro w hB; rintro _ ⟨_, rfl⟩
                    simp only [St.withD, List.nil_append, List.cons_append, Act.put, List.setIfInBounds_toArray, List.set_cons_zero, List.set_cons_succ]
                    have c0 : w.cell? (ad.add i) = some (.int .i64 x) := pw_cell_below hB HX9.out
                    have c1 : w.cell? (ad.add k) = some (.int .i64 y) := pw_cell_below hB HK9.out
                    refine St.ob_value (v := ?_) (w' := w) (by rfl) ?_ ⟨Below.refl _ _, ?_⟩
                    rotate_left
                    · go_simp
                      with_reducible rfl
                    · rfl
                  · intro w hB
                    simp only [St.withD]
                    refine St.ob_value (v := ?_) (w' := w) (by rfl) ?_ ⟨Below.refl _ _, ?_⟩
                    rotate_left
                    · go_simp
                      with_reducible rfl
                    · rfl
                  · intro w hB
                    simp only [St.withD]
                    refine St.ob_value (v := ?_) (w' := w) (by rfl) ?_ ⟨Below.refl _ _, ?_⟩
                    rotate_left
                    · go_simp
                      with_reducible rfl
                    · rfl
                  · intro w hB; rintro _ ⟨_, rfl⟩ _ ⟨_, rfl⟩
                    simp only [St.withD, List.nil_append, List.cons_append, Act.put, List.setIfInBounds_toArray, List.set_cons_zero, List.set_cons_succ]
                    refine St.ob_value (v := ?_) (w' := w) (by rfl) ?_ ⟨Below.refl _ _, ?_⟩
                    rotate_left
                    · go_simp
                      with_reducible rfl
                    · rfl
                  · intro w hB; rintro _ ⟨_, rfl⟩
                    simp only [St.withD, List.nil_append, List.cons_append, Act.put, List.setIfInBounds_toArray, List.set_cons_zero, List.set_cons_succ]
                    have c0 : w.cell? (ad.add i) = some (.int .i64 x) := pw_cell_below hB HX9.out
                    have c1 : w.cell? (ad.add k) = some (.int .i64 y) := pw_cell_below hB HK9.out
                    refine St.ob_value (v := ?_) (w' := w) (by rfl) ?_ ⟨Below.refl _ _, ?_⟩
                    rotate_left
                    · go_simp
                      with_reducible rfl
                    · rfl
                  · intro w hB; rintro _ ⟨_, rfl⟩
                    simp only [St.withD, List.nil_append, List.cons_append, Act.put, List.setIfInBounds_toArray, List.set_cons_zero, List.set_cons_succ]
                    refine St.ob_value (v := ?_) (w' := w) (by rfl) ?_ ⟨Below.refl _ _, ?_⟩
                    rotate_left
                    · go_simp
                      with_reducible rfl
                    · rfl
                  · intro w hB; rintro _ ⟨_, rfl⟩ _ ⟨_, rfl⟩
                    simp only [St.withD, List.nil_append, List.cons_append, Act.put, List.setIfInBounds_toArray, List.set_cons_zero, List.set_cons_succ]
                    refine St.ob_value (v := ?_) (w' := w) (by rfl) ?_ ⟨Below.refl _ _, ?_⟩
                    rotate_left
                    · go_simp
                      with_reducible rfl
                    · rfl
                  · intro w hB; rintro _ ⟨_, rfl⟩
                    simp only [St.withD, List.nil_append, List.cons_append, Act.put, List.setIfInBounds_toArray, List.set_cons_zero, List.set_cons_succ]
                    refine St.ob_value (v := .slice (some ⟨w.heap.size, 0, none⟩) 1 1) (w' := w.alloc (.cells #[.int .i64 x, .int .i64 (y + 1)] 32 (0, 0))) (by rfl) (by go_simp) ⟨below_alloc (Below.refl _ _) _, ⟨_, rfl, blk_new w _, fun e => by have := own_lt HPW.out.1 w.heap.size e.symm; have := hB.size; omega⟩⟩
                  · intro w hB; rintro v0 ⟨ds0, hv0⟩ v11 ⟨ds11, ht11⟩
                    simp only [St.withD, List.nil_append, List.cons_append, Act.put, List.setIfInBounds_toArray, List.set_cons_zero, List.set_cons_succ]
                    have hv0 : u3 = v0 := hv0.symm
                    subst hv0
                    obtain ⟨b, rfl, hbk, _⟩ := ht11
                    have hrow : w.ownsRow w0.heap.size 32 2 u3 o.length (pcs o) := (Ch.of_below (S := fun _ => False) hB).own HPW.out.1 (fun _ _ h => h)
                    obtain ⟨v1, w2, hrun, hown, hgr⟩ := ap_many (P := Try.prog) (t := 30) (ty := 30) Try.underlying30 info32 (by rfl) (by decide) (by decide) hrow (ys := [.int .i64 x, .int .i64 (y + 1)]) hbk rfl (by simp [Value.oneCell']) (by have := hB.size; omega) (by omega)
                    exact St.ob_value (v := v1) (w' := w2) (by rfl) (append_op rfl (by rfl) (by rfl) hrun) ⟨⟨hgr, (HPW.out.2.trans (hB.mono hsz)).grown hgr (by have := hB.size; omega) (fun k hk => own_blk HPW.out.1 k hk)⟩, hown⟩
                  · intro w hB; rintro v12 ⟨ds12, ht12⟩
                    simp only [St.withD, List.nil_append, List.cons_append, Act.put, List.setIfInBounds_toArray, List.set_cons_zero, List.set_cons_succ]
                    refine St.ob_value (v := v12) (w' := w) (by rfl) ?_ ⟨rfl, rfl⟩
                    go_simp
                case hst => exact ⟨St.eqT_st, St.eqT_st, St.eqT_st, St.eqT_st, St.eqT_st, St.eqT_st, St.eqT_st, St.eqT_st, St.eqT_st, St.eqT_st, St.eqT_st, fun ds v w w' h hR => by (obtain ⟨b, e1, e2, e3⟩ := h; rcases hR with ⟨_, hR | ⟨hR, _⟩⟩ | hR; exact ⟨b, e1, blk_below e2 hR, e3⟩; exact ⟨b, e1, blk_grown e2 hR e3, e3⟩; (subst hR; exact ⟨b, e1, e2, e3⟩)), fun ds v w w' h hR => by (rcases hR with ⟨hk, _⟩ | hR; (exact absurd hk (by decide)); (subst hR; exact h)), fun ds v w w' h hR => by exact h, trivial⟩
                case h0 => exact below_drew1 (Below.refl _ _)
                case hB => exact fun w w' h k => below_step h k
                case hC => (intro w w' h e; subst e; exact h)
                case hend =>
                  intro w hB
                  rintro v0 hv0 _ rfl _ rfl _ rfl _ rfl _ rfl _ rfl _ rfl _ rfl _ rfl _ rfl v11 ht11 v12 ht12 v13 ht13
                  simp only [List.map_cons, List.map_nil, List.nil_append, List.cons_append, List.getD_cons_zero, List.getD_cons_succ, Act.put, List.setIfInBounds_toArray, List.set_cons_zero, List.set_cons_succ]
                  rw [St.withE_nil]
                  have hv0 : u3 = v0 := hv0.symm
                  subst hv0
                  have HW1 : Aside0 (w.ownsRow w0.heap.size 32 2 v12 (o.length + 1) (pcs o ++ [.int .i64 x, .int .i64 (y + 1)]) ∧ Below w0.heap.size w0 w) := ⟨ht12, hB⟩
                  subst ht13
                  clear ht11 ht12 hB
                  clear hwy
                  go_wp2
                  go_roundg (gi - 1)
                  case measure => have := HI.out.1; omega
                  case rel => exact ⟨i + 1, o ++ [(x, y + 1)], by go_num, ⟨by have := HI.out.1; omega, by rw [prv_succ, HXE.out]; exact HDE.out, by have := HI.out.2.2; simp; omega⟩, ⟨by
                    unfold PR
                    rw [pcs_snoc, show (o ++ [(x, y + 1)]).length = o.length + 1 by simp]
                    exact HW1.out.1, HW1.out.2⟩⟩
            · have hgk : decide (k1 < n) = false := decide_eq_false hlt1
              have HRU2 : Aside0 (ru x (l.drop (i + 1)) = y) := ⟨by
                rw [HQ.out.2.2.2, HYE.out, List.drop_eq_nil_of_le (by have := HL.out; omega)]
                rfl⟩
              clear hk1
              go_wp2
              go_quiet (fail)
              clear hwk
              have HDW : Aside0 (Drawn0 wv (wr.drewN nq)) := ⟨Drawn0.step HD.out _⟩
              have hckw : (wr.drewN nq).cell? (ad.add k) = some (.int .i64 y) := hck
              clear hck HD
              generalize wr.drewN nq = wr at HDW hckw ⊢
              have HD := HDW
              have hcelx : wr.cell? (ad.add i) = some (.int .i64 x) := by obtain ⟨⟨nq, rfl⟩⟩ := HD.out; exact hcell1
              have HP2 : Aside0 (PR w0.heap.size wr.drew u3 o ∧ Below w0.heap.size w0 wr.drew) := ⟨by obtain ⟨⟨nq, rfl⟩⟩ := HD.out; exact ⟨HP1.out.1, below_drew (pw_below_drewN HP1.out.2 nq)⟩⟩
              have HDE : Aside0 ((o ++ [(x, y + 1)]) ++ dq (some x) (l.drop (i + 1)) = RES) := ⟨by rw [← HRU2.out]; exact HDN.out⟩
              obtain ⟨Av, cv, hv, hcv1, hcv2, _⟩ := HP2.out.1.shape
              have hsz := HP2.out.2.size
              have hol : o.length ≤ 1000 := by have := HI.out.2.2; omega
              have hin1 : (i : Int) < n := by omega
              have hkn1 : (k : Int) < n := by omega
              have hk00 : (0 : Int) ≤ k := by omega
              have HX9 := Aside0.mk hcelx
              have HK9 := Aside0.mk hckw
              have HPW : Aside0 (PR w0.heap.size wr u3 o ∧ Below w0.heap.size w0 wr) := ⟨by obtain ⟨⟨nq, rfl⟩⟩ := HD.out; exact ⟨HP1.out.1, pw_below_drewN HP1.out.2 nq⟩⟩
              have hsz := HPW.out.2.size
              clear HP HP1 hcell1 hv hcv1 hcv2 HP2 hcelx hckw HD HDW
              go_wp2
              refine St.steadyW (n := 14) (by kernel_rfl) ([] :: [] :: [] :: [(1, 49), (2, 50)] :: [(3, 51)] :: [] :: [] :: [(5, 53), (6, 54)] :: [(7, 55)] :: [(8, 56)] :: [(4, 52), (9, 57)] :: [(10, 58)] :: [(0, 48), (11, 59)] :: [(12, 60)] :: []) (some 48 :: some 49 :: some 50 :: some 51 :: some 52 :: some 53 :: some 54 :: some 55 :: some 56 :: some 57 :: some 58 :: some 59 :: some 60 :: some 3 :: []) (by kernel_rfl) 12 (0 :: 0 :: 0 :: 0 :: 0 :: 0 :: 0 :: 0 :: 0 :: 0 :: 0 :: 0 :: 1 :: 2 :: []) (by kernel_rfl) rfl (by decide) ((St.eqT ?c9_0x7) :: (St.eqT ?c9_1x7) :: (St.eqT ?c9_2x7) :: (St.eqT ?c9_3x7) :: (St.eqT ?c9_4x7) :: (St.eqT ?c9_5x7) :: (St.eqT ?c9_6x7) :: (St.eqT ?c9_7x7) :: (St.eqT ?c9_8x7) :: (St.eqT ?c9_9x7) :: (St.eqT ?c9_10x7) :: (fun _ v w => ∃ b, v = .slice (some ⟨b, 0, none⟩) 1 1 ∧ w.heap[b]? = some (.cells #[.int .i64 x, .int .i64 (y + 1)] 32 (0, 0)) ∧ some b ≠ u3.ownBlock) :: (fun _ v w => w.ownsRow w0.heap.size 32 2 v (o.length + 1) (pcs o ++ [.int .i64 x, .int .i64 (y + 1)])) :: (fun ds v w => v = ds.getD 0 undef) :: []) rfl (by rfl) (fun w' => Below wr.heap.size wr w') (fun w w' => Below w.heap.size w w') (fun w w' => w.grownBy w' u3.ownBlock) (fun w' => Below w0.heap.size w0 w') (fun w w' => w = w') ?hst ?h0 ?hB ?hC ?hop ?hend
              case hop =>
                refine ⟨?_, ?_, ?_, ?_, ?_, ?_, ?_, ?_, ?_, ?_, ?_, ?_, ?_, ?_, trivial⟩
                · intro w hB
                  simp only [St.withD]
                  refine St.ob_value (v := ?_) (w' := w) (by rfl) ?_ ⟨Below.refl _ _, ?_⟩
                  rotate_left
                  · go_simp
                    with_reducible rfl
                  · rfl
                · intro w hB
                  simp only [St.withD]
                  refine St.ob_value (v := ?_) (w' := w) (by rfl) ?_ ⟨Below.refl _ _, ?_⟩
                  rotate_left
                  · go_simp
                    with_reducible rfl
                  · rfl
                · intro w hB
                  simp only [St.withD]
                  refine St.ob_value (v := ?_) (w' := w) (by rfl) ?_ ⟨Below.refl _ _, ?_⟩
                  rotate_left
                  · go_simp
                    with_reducible rfl
                  · rfl
                · intro w hB; rintro _ ⟨_, rfl⟩ _ ⟨_, rfl⟩
                  simp only [St.withD, List.nil_append, List.cons_append, Act.put, List.setIfInBounds_toArray, List.set_cons_zero, List.set_cons_succ]
                  refine St.ob_value (v := ?_) (w' := w) (by rfl) ?_ ⟨Below.refl _ _, ?_⟩
                  rotate_left
                  · go_simp
                    with_reducible rfl
                  · rfl
                · intro w hB; rintro _ ⟨_, rfl⟩
                  simp only [St.withD, List.nil_append, List.cons_append, Act.put, List.setIfInBounds_toArray, List.set_cons_zero, List.set_cons_succ]
                  have c0 : w.cell? (ad.add i) = some (.int .i64 x) := pw_cell_below hB HX9.out
                  have c1 : w.cell? (ad.add k) = some (.int .i64 y) := pw_cell_below hB HK9.out
                  refine St.ob_value (v := ?_) (w' := w) (by rfl) ?_ ⟨Below.refl _ _, ?_⟩
                  rotate_left
                  · go_simp
                    with_reducible rfl
                  · rfl
                · intro w hB
                  simp only [St.withD]
                  refine St.ob_value (v := ?_) (w' := w) (by rfl) ?_ ⟨Below.refl _ _, ?_⟩
                  rotate_left
                  · go_simp
                    with_reducible rfl
                  · rfl
                · intro w hB
                  simp only [St.withD]
                  refine St.ob_value (v := ?_) (w' := w) (by rfl) ?_ ⟨Below.refl _ _, ?_⟩
                  rotate_left
                  · go_simp
                    with_reducible rfl
                  · rfl
                · intro w hB; rintro _ ⟨_, rfl⟩ _ ⟨_, rfl⟩
                  simp only [St.withD, List.nil_append, List.cons_append, Act.put, List.setIfInBounds_toArray, List.set_cons_zero, List.set_cons_succ]
                  refine St.ob_value (v := ?_) (w' := w) (by rfl) ?_ ⟨Below.refl _ _, ?_⟩
                  rotate_left
                  · go_simp
                    with_reducible rfl
                  · rfl
                · intro w hB; rintro _ ⟨_, rfl⟩
                  simp only [St.withD, List.nil_append, List.cons_append, Act.put, List.setIfInBounds_toArray, List.set_cons_zero, List.set_cons_succ]
                  have c0 : w.cell? (ad.add i) = some (.int .i64 x) := pw_cell_below hB HX9.out
                  have c1 : w.cell? (ad.add k) = some (.int .i64 y) := pw_cell_below hB HK9.out
                  refine St.ob_value (v := ?_) (w' := w) (by rfl) ?_ ⟨Below.refl _ _, ?_⟩
                  rotate_left
                  · go_simp
                    with_reducible rfl
                  · rfl
                · intro w hB; rintro _ ⟨_, rfl⟩
                  simp only [St.withD, List.nil_append, List.cons_append, Act.put, List.setIfInBounds_toArray, List.set_cons_zero, List.set_cons_succ]
                  refine St.ob_value (v := ?_) (w' := w) (by rfl) ?_ ⟨Below.refl _ _, ?_⟩
                  rotate_left
                  · go_simp
                    with_reducible rfl
                  · rfl
                · intro w hB; rintro _ ⟨_, rfl⟩ _ ⟨_, rfl⟩
                  simp only [St.withD, List.nil_append, List.cons_append, Act.put, List.setIfInBounds_toArray, List.set_cons_zero, List.set_cons_succ]
                  refine St.ob_value (v := ?_) (w' := w) (by rfl) ?_ ⟨Below.refl _ _, ?_⟩
                  rotate_left
                  · go_simp
                    with_reducible rfl
                  · rfl
                · intro w hB; rintro _ ⟨_, rfl⟩
                  simp only [St.withD, List.nil_append, List.cons_append, Act.put, List.setIfInBounds_toArray, List.set_cons_zero, List.set_cons_succ]
                  refine St.ob_value (v := .slice (some ⟨w.heap.size, 0, none⟩) 1 1) (w' := w.alloc (.cells #[.int .i64 x, .int .i64 (y + 1)] 32 (0, 0))) (by rfl) (by go_simp) ⟨below_alloc (Below.refl _ _) _, ⟨_, rfl, blk_new w _, fun e => by have := own_lt HPW.out.1 w.heap.size e.symm; have := hB.size; omega⟩⟩
                · intro w hB; rintro v0 ⟨ds0, hv0⟩ v11 ⟨ds11, ht11⟩
                  simp only [St.withD, List.nil_append, List.cons_append, Act.put, List.setIfInBounds_toArray, List.set_cons_zero, List.set_cons_succ]
                  have hv0 : u3 = v0 := hv0.symm
                  subst hv0
                  obtain ⟨b, rfl, hbk, _⟩ := ht11
                  have hrow : w.ownsRow w0.heap.size 32 2 u3 o.length (pcs o) := (Ch.of_below (S := fun _ => False) hB).own HPW.out.1 (fun _ _ h => h)
                  obtain ⟨v1, w2, hrun, hown, hgr⟩ := ap_many (P := Try.prog) (t := 30) (ty := 30) Try.underlying30 info32 (by rfl) (by decide) (by decide) hrow (ys := [.int .i64 x, .int .i64 (y + 1)]) hbk rfl (by simp [Value.oneCell']) (by have := hB.size; omega) (by omega)
                  exact St.ob_value (v := v1) (w' := w2) (by rfl) (append_op rfl (by rfl) (by rfl) hrun) ⟨⟨hgr, (HPW.out.2.trans (hB.mono hsz)).grown hgr (by have := hB.size; omega) (fun k hk => own_blk HPW.out.1 k hk)⟩, hown⟩
                · intro w hB; rintro v12 ⟨ds12, ht12⟩
                  simp only [St.withD, List.nil_append, List.cons_append, Act.put, List.setIfInBounds_toArray, List.set_cons_zero, List.set_cons_succ]
                  refine St.ob_value (v := v12) (w' := w) (by rfl) ?_ ⟨rfl, rfl⟩
                  go_simp
              case hst => exact ⟨St.eqT_st, St.eqT_st, St.eqT_st, St.eqT_st, St.eqT_st, St.eqT_st, St.eqT_st, St.eqT_st, St.eqT_st, St.eqT_st, St.eqT_st, fun ds v w w' h hR => by (obtain ⟨b, e1, e2, e3⟩ := h; rcases hR with ⟨_, hR | ⟨hR, _⟩⟩ | hR; exact ⟨b, e1, blk_below e2 hR, e3⟩; exact ⟨b, e1, blk_grown e2 hR e3, e3⟩; (subst hR; exact ⟨b, e1, e2, e3⟩)), fun ds v w w' h hR => by (rcases hR with ⟨hk, _⟩ | hR; (exact absurd hk (by decide)); (subst hR; exact h)), fun ds v w w' h hR => by exact h, trivial⟩
              case h0 => exact below_drew1 (Below.refl _ _)
              case hB => exact fun w w' h k => below_step h k
              case hC => (intro w w' h e; subst e; exact h)
              case hend =>
                intro w hB
                rintro v0 hv0 _ rfl _ rfl _ rfl _ rfl _ rfl _ rfl _ rfl _ rfl _ rfl _ rfl v11 ht11 v12 ht12 v13 ht13
                simp only [List.map_cons, List.map_nil, List.nil_append, List.cons_append, List.getD_cons_zero, List.getD_cons_succ, Act.put, List.setIfInBounds_toArray, List.set_cons_zero, List.set_cons_succ]
                rw [St.withE_nil]
                have hv0 : u3 = v0 := hv0.symm
                subst hv0
                have HW1 : Aside0 (w.ownsRow w0.heap.size 32 2 v12 (o.length + 1) (pcs o ++ [.int .i64 x, .int .i64 (y + 1)]) ∧ Below w0.heap.size w0 w) := ⟨ht12, hB⟩
                subst ht13
                clear ht11 ht12 hB
                clear hwy
                go_wp2
                go_roundg (gi - 1)
                case measure => have := HI.out.1; omega
                case rel => exact ⟨i + 1, o ++ [(x, y + 1)], by go_num, ⟨by have := HI.out.1; omega, by rw [prv_succ, HXE.out]; exact HDE.out, by have := HI.out.2.2; simp; omega⟩, ⟨by
                  unfold PR
                  rw [pcs_snoc, show (o ++ [(x, y + 1)]).length = o.length + 1 by simp]
                  exact HW1.out.1, HW1.out.2⟩⟩
    · have hk : i = n := by have := HI.out.1; omega
      subst hk
      have HF : Aside0 (o = RES) := ⟨by
        have := HI.out.2.1
        rw [List.drop_eq_nil_of_le (by have := HL.out; omega)] at this
        exact (List.append_nil o).symm.trans this⟩
      have h1 : ¬ (i : Int) < i := by omega
      go_wp2
      go_ret
      rw [← HF.out]
      exact ⟨_, rfl, HP.out.1, HP.out.2⟩
end Go.Proofs.Ytfijbhacobjjgaf
