/- The contract of Join. -/
import Derived.Test.YtfijbhacobjjgafProg
import Derived.Test.YtfijbhacobjjgafVals
import Derived.Test.YtfijbhacobjjgafWLast
import Derived.Test.YtfijbhacobjjgafWMore
import Derived.RegionTactic
import Derived.ChangeAlike
import Derived.BigRegion
import Derived.WalkLawsBesides
import Derived.WalkSpells
import Derived.Deep.LoopGhost
import Derived.Deep.QuietTactic
import Derived.BigQuiet
import Derived.OwnWalk
import Derived.Test.YtfijbhacobjjgafPairsA
namespace Go.Proofs.Ytfijbhacobjjgaf
open Go.RowKit Go.Proofs.YtfijbhacobjjgafW.PrintWords Go.Proofs.YtfijbhacobjjgafW.PrintLast Go.Proofs.YtfijbhacobjjgafW.PrintMore Go.Proofs.Ytfijbhacobjjgaf.Fr
set_option linter.unusedVariables false
set_option linter.unusedSimpArgs false
attribute [local go_sem] max2_int min2_int max_two min_two

open Pl
def JoinPost (o : List (Int × Int)) (w : World) (e : Ending) (w' : World) : Prop := ∃ v, e = .returned v ∧ PR w.heap.size w' v o ∧ Below w.heap.size w w'
theorem stp_nil (x : Int) : stp [] x = [] ++ [(x, x + 1)] := rfl
theorem stp_hit (o : List (Int × Int)) (s x : Int) : stp (o ++ [(s, x)]) x = o ++ [(s, x + 1)] := by simp [stp]
theorem stp_miss (o : List (Int × Int)) (s e x : Int) (h : ¬ e = x) : stp (o ++ [(s, e)]) x = (o ++ [(s, e)]) ++ [(x, x + 1)] := by simp [stp, h]
theorem stp_len (l : List Int) : ∀ o : List (Int × Int), (l.foldl stp o).length ≤ o.length + l.length := by
  induction l with
  | nil => intro o; simp
  | cons x r ih =>
    intro o
    have h1 := ih (stp o x)
    have h2 : (stp o x).length ≤ o.length + 1 := by
      unfold stp
      split
      · simp only [List.length_append, List.length_dropLast, List.length_cons, List.length_nil]; omega
      · simp
    simp only [List.foldl_cons, List.length_cons]
    omega
set_option maxRecDepth 100000 in
set_option maxHeartbeats 1000000 in
theorem join_any (A : Option Addr) (n c : Nat) (l : List Int) (hl : l.length = n) (hn : n ≤ 1000) (w0 : World) (hR : RdK .i64 w0 A l) (hx : ∀ i, i < n → -9223372036854775808 ≤ l.getD i 0 ∧ l.getD i 0 < 4611686018427387904) : Calls Try.prog 10 #[.slice A n c] w0 (JoinPost (l.foldl stp []) w0) := by
  have HR := Aside0.mk hR
  have HX := Aside0.mk hx
  have HL := Aside0.mk hl
  obtain ⟨RES, hRES⟩ : ∃ RES, l.foldl stp [] = RES := ⟨_, rfl⟩
  have HI0 : Aside0 (0 + n = n ∧ (l.drop 0).foldl stp [] = RES ∧ ([] : List (Int × Int)).length ≤ 0) := ⟨Nat.zero_add _, hRES, Nat.le_refl _⟩
  rw [hRES]
  clear hR hx hl hRES
  go_enter Try.func10, Try.ntmps10
  go_wp2
  go_loopg [3, 8] n (fun gk x3 x8 wr => ∃ (k : Nat) (o : List (Int × Int)), x8 = .int .i64 k ∧ Aside0 (k + gk = n ∧ (l.drop k).foldl stp o = RES ∧ o.length ≤ k) ∧ Aside0 (PR w0.heap.size wr x3 o ∧ Below w0.heap.size w0 wr ∧ (k = 0 ↔ o = [])))
  case atStart => exact ⟨0, [], rfl, HI0, ⟨⟨rfl, .inl ⟨rfl, rfl⟩⟩, Below.refl _ _, by simp⟩⟩
  case round =>
    clear HI0
    obtain ⟨k, o, rfl, HI, HP⟩ := hrel
    by_cases hlt : k < n
    · have h1 : (k : Int) < n := by omega
      obtain ⟨ad, rfl, hcell0⟩ := HR.out k (by have := HL.out; omega)
      have hcell := pw_cell_below HP.out.2.1 hcell0
      obtain ⟨x, hxe⟩ : ∃ x, l.getD k 0 = x := ⟨_, rfl⟩
      have hxb := HX.out k hlt
      have HNX : Aside0 ((l.drop (k + 1)).foldl stp (stp o x) = RES ∧ (k + 1) + (gk - 1) = n ∧ 1 ≤ gk) := ⟨by
        have h2 := HI.out.2.1
        rw [List.drop_eq_getElem_cons (by have := HL.out; omega), List.foldl_cons] at h2
        have e : l[k]'(by have := HL.out; omega) = x := by rw [← hxe, List.getD_eq_getElem?_getD, List.getElem?_eq_getElem (by have := HL.out; omega)]; rfl
        rw [e] at h2
        exact ⟨h2, by have := HI.out.1; omega, by have := HI.out.1; omega⟩⟩
      rw [hxe] at hcell hxb
      obtain ⟨hxa, hxb⟩ := hxb
      clear hcell0 hxe
      rcases List.eq_nil_or_concat o with rfl | ⟨o', p, rfl⟩
      · obtain rfl : k = 0 := HP.out.2.2.2 rfl
        rw [show ad.add 0 = ad by simp [Addr.add]] at hcell
        have HPB := Aside0.mk HP.out.2.1
        have hsz := HP.out.2.1.size
        have HO0 : Aside0 (wr.ownsRow w0.heap.size 32 2 u3 0 []) := ⟨HP.out.1⟩
        clear HP
        go_wp2_with ((with_reducible refine gate_dst (N := 42) rfl ?_); refine print_append_cells (w0 := wr) w0.heap.size rfl (.tmp 36) (.tmp 41) 30 32 (.agg #[.int .i64 0, .int .i64 0]) 2 16 rfl Try.underlying30 info32 rfl (by decide) (by decide) u3 0 [] [.int .i64 x, .int .i64 (x + 1)] rfl rfl rfl (by simp [Value.oneCell']) HO0.out (Below.refl _ _) hsz (by decide) ?_; intro v1 w1 hown hbel hgrow hat; have HW1 := Aside0.mk (And.intro hown (HPB.out.grown hgrow hsz (fun k hk => own_blk HO0.out k hk))); clear hown hbel hgrow hat)
        go_roundg (gk - 1)
        case measure => have := HNX.out.2.2; omega
        case rel => exact ⟨1, [(x, x + 1)], rfl, ⟨HNX.out.2.1, HNX.out.1, by simp⟩, ⟨HW1.out.1, HW1.out.2, by simp⟩⟩
      · obtain ⟨s, e⟩ := p
        rw [List.concat_eq_append] at HP HI HNX
        obtain ⟨g, cc, rfl, hg, hcc, hlast, hfr, hput⟩ := HP.out.1.last
        have hol : o'.length ≤ 1000 := by have := HI.out.2.2; simp at this; omega
        obtain ⟨m, hm⟩ : ∃ m, o'.length = m := ⟨_, rfl⟩
        have HM := Aside0.mk hm
        have HPUT := Aside0.mk hput
        rw [hm] at hcc hlast hol HPUT
        clear hput
        have hk0 : (0 : Int) < k := by
          have := HP.out.2.2.1
          rcases Nat.eq_zero_or_pos k with e | e
          · have := this e; simp at this
          · omega
        by_cases he : e = x
        · subst he
          have HLA := Aside0.mk hlast
          go_wp2
          have hw1 : IntKind.i64.wrap (m : Int) = m := by rw [IntKind.wrap_i64]; omega
          have hw2 : IntKind.i64.wrap (e + 1) = e + 1 := by rw [IntKind.wrap_i64]; omega
          have hm0 : (0 : Int) ≤ m := by omega
          have hm1 : (m : Int) < m + 1 := by omega
          refine St.steadyW (n := 11) (by kernel_rfl) ([] :: [] :: [(1, 27)] :: [(2, 28)] :: [(0, 26), (3, 29)] :: [(4, 30)] :: [(5, 31)] :: [(6, 32)] :: [(0, 26), (3, 29)] :: [(8, 34)] :: [(7, 33), (9, 35)] :: []) (some 26 :: some 27 :: some 28 :: some 29 :: some 30 :: some 31 :: some 32 :: some 33 :: some 34 :: some 35 :: none :: []) (by kernel_rfl) 10 (0 :: 0 :: 0 :: 0 :: 0 :: 0 :: 0 :: 0 :: 0 :: 0 :: 1 :: []) (by kernel_rfl) rfl (by decide) ((St.eqT ?c6_0x3) :: (St.eqT ?c6_1x3) :: (St.eqT ?c6_2x3) :: (St.eqT ?c6_3x3) :: (St.eqT ?c6_4x3) :: (St.eqT ?c6_5x3) :: (St.eqT ?c6_6x3) :: (St.eqT ?c6_7x3) :: (St.eqT ?c6_8x3) :: (St.eqT ?c6_9x3) :: (St.eqT undef) :: []) rfl (by rfl) (fun w' => Drawn0 wr w') (fun w w' => w = w') (fun _ _ => True) (fun w' => ∃ nq, w' = (wr.drewN nq).setCell ⟨g, m * 2 + 1, none⟩ (.int .i64 (e + 1))) (fun w w' => w = w') ?hst ?h0 ?hB ?hC ?hop ?hend
          case hop =>
            refine ⟨?_, ?_, ?_, ?_, ?_, ?_, ?_, ?_, ?_, ?_, ?_, trivial⟩
            · intro w hB
              simp only [St.withD]
              refine St.ob_value (v := ?_) (w' := w) (by rfl) ?_ ⟨rfl, ?_⟩
              rotate_left
              · go_simp
                with_reducible rfl
              · rfl
            · intro w hB
              simp only [St.withD]
              refine St.ob_value (v := ?_) (w' := w) (by rfl) ?_ ⟨rfl, ?_⟩
              rotate_left
              · go_simp
                with_reducible rfl
              · rfl
            · intro w hB; rintro _ ⟨_, rfl⟩
              simp only [St.withD, List.nil_append, List.cons_append, Act.put, List.setIfInBounds_toArray, List.set_cons_zero, List.set_cons_succ]
              refine St.ob_value (v := ?_) (w' := w) (by rfl) ?_ ⟨rfl, ?_⟩
              rotate_left
              · go_simp
                with_reducible rfl
              · rfl
            · intro w hB; rintro _ ⟨_, rfl⟩
              simp only [St.withD, List.nil_append, List.cons_append, Act.put, List.setIfInBounds_toArray, List.set_cons_zero, List.set_cons_succ]
              refine St.ob_value (v := ?_) (w' := w) (by rfl) ?_ ⟨rfl, ?_⟩
              rotate_left
              · go_simp
                with_reducible rfl
              · rfl
            · intro w hB; rintro _ ⟨_, rfl⟩ _ ⟨_, rfl⟩
              simp only [St.withD, List.nil_append, List.cons_append, Act.put, List.setIfInBounds_toArray, List.set_cons_zero, List.set_cons_succ]
              refine St.ob_value (v := ?_) (w' := w) (by rfl) ?_ ⟨rfl, ?_⟩
              rotate_left
              · go_simp
                with_reducible rfl
              · rfl
            · intro w hB; rintro _ ⟨_, rfl⟩
              simp only [St.withD, List.nil_append, List.cons_append, Act.put, List.setIfInBounds_toArray, List.set_cons_zero, List.set_cons_succ]
              refine St.ob_value (v := ?_) (w' := w) (by rfl) ?_ ⟨rfl, ?_⟩
              rotate_left
              · go_simp
                with_reducible rfl
              · rfl
            · intro w hB; rintro _ ⟨_, rfl⟩
              simp only [St.withD, List.nil_append, List.cons_append, Act.put, List.setIfInBounds_toArray, List.set_cons_zero, List.set_cons_succ]
              have c0 : w.cell? ⟨g, m * 2 + 1, none⟩ = some (.int .i64 e) := by obtain ⟨⟨nq, rfl⟩⟩ := hB; exact HLA.out
              refine St.ob_value (v := ?_) (w' := w) (by rfl) ?_ ⟨rfl, ?_⟩
              rotate_left
              · go_simp
                with_reducible rfl
              · rfl
            · intro w hB; rintro _ ⟨_, rfl⟩
              simp only [St.withD, List.nil_append, List.cons_append, Act.put, List.setIfInBounds_toArray, List.set_cons_zero, List.set_cons_succ]
              refine St.ob_value (v := ?_) (w' := w) (by rfl) ?_ ⟨rfl, ?_⟩
              rotate_left
              · go_simp
                with_reducible rfl
              · rfl
            · intro w hB; rintro _ ⟨_, rfl⟩ _ ⟨_, rfl⟩
              simp only [St.withD, List.nil_append, List.cons_append, Act.put, List.setIfInBounds_toArray, List.set_cons_zero, List.set_cons_succ]
              refine St.ob_value (v := ?_) (w' := w) (by rfl) ?_ ⟨rfl, ?_⟩
              rotate_left
              · go_simp
                with_reducible rfl
              · rfl
            · intro w hB; rintro _ ⟨_, rfl⟩
              simp only [St.withD, List.nil_append, List.cons_append, Act.put, List.setIfInBounds_toArray, List.set_cons_zero, List.set_cons_succ]
              refine St.ob_value (v := ?_) (w' := w) (by rfl) ?_ ⟨rfl, ?_⟩
              rotate_left
              · go_simp
                with_reducible rfl
              · rfl
            · intro w hB; rintro _ ⟨_, rfl⟩ _ ⟨_, rfl⟩
              simp only [St.withD, List.nil_append, List.cons_append, Act.put, List.setIfInBounds_toArray, List.set_cons_zero, List.set_cons_succ]
              obtain ⟨⟨nq, rfl⟩⟩ := hB
              have f2 : (wr.drewN nq).frozen? ⟨g, m * 2 + 1, none⟩ = false := hfr _
              have c0 : wr.cell? ⟨g, m * 2 + 1, none⟩ = some (.int .i64 e) := HLA.out
              refine St.ob_skip (w' := (wr.drewN nq).setCell ⟨g, m * 2 + 1, none⟩ (.int .i64 (e + 1))) (by rfl) ?_ ⟨⟨trivial, nq, rfl⟩, rfl⟩
              go_simp
              try rfl
          case hst => exact ⟨St.eqT_st, St.eqT_st, St.eqT_st, St.eqT_st, St.eqT_st, St.eqT_st, St.eqT_st, St.eqT_st, St.eqT_st, St.eqT_st, St.eqT_st, trivial⟩
          case h0 => exact Drawn0.step (Drawn0.refl _) 1
          case hB => exact fun w w' h e => e ▸ h
          case hC => (intro w w' h e; subst e; exact h)
          case hend =>
            intro w hB
            rintro _ rfl _ rfl _ rfl _ rfl _ rfl _ rfl _ rfl _ rfl _ rfl _ rfl _ rfl
            simp only [List.map_cons, List.map_nil, List.nil_append, List.cons_append, List.getD_cons_zero, List.getD_cons_succ, Act.put, List.setIfInBounds_toArray, List.set_cons_zero, List.set_cons_succ]
            rw [St.withE_nil]
            obtain ⟨nq, rfl⟩ := hB
            have HW1 : Aside0 (PR w0.heap.size ((wr.drewN nq).setCell ⟨g, m * 2 + 1, none⟩ (.int .i64 (e + 1))) (.slice (some ⟨g, 0, none⟩) (m + 1) cc) (o' ++ [(s, e + 1)]) ∧ Below w0.heap.size w0 ((wr.drewN nq).setCell ⟨g, m * 2 + 1, none⟩ (.int .i64 (e + 1)))) := ⟨HPUT.out (e + 1), (pw_below_drewN HP.out.2.1 nq).setCell (p := ⟨g, m * 2 + 1, none⟩) hg _⟩
            clear hw1 hw2 hm0 hm1
            generalize (wr.drewN nq).setCell ⟨g, m * 2 + 1, none⟩ (.int .i64 (e + 1)) = V at HW1 ⊢
            go_wp2
            go_roundg (gk - 1)
            case measure => have := HNX.out.2.2; omega
            case rel =>
              have h2 := HNX.out.1
              rw [stp_hit] at h2
              exact ⟨k + 1, o' ++ [(s, e + 1)], by go_num, ⟨HNX.out.2.1, h2, by have := HI.out.2.2; simp at this ⊢; omega⟩, ⟨HW1.out.1, HW1.out.2, by simp⟩⟩
        · have hne : (e == x) = false := beq_eq_false_iff_ne.2 he
          have HPB := Aside0.mk HP.out.2.1
          have hsz := HP.out.2.1.size
          have HO0 : Aside0 (wr.ownsRow w0.heap.size 32 2 (.slice (some ⟨g, 0, none⟩) (m + 1) cc) (m + 1) (pcs (o' ++ [(s, e)]))) := ⟨by
            have := HP.out.1
            unfold PR at this
            rw [List.length_append, HM.out] at this
            exact this⟩
          have HST := Aside0.mk (stp_miss o' s e x he)
          clear HP he
          go_wp2_with ((with_reducible refine gate_dst (N := 42) rfl ?_); refine print_append_cells (w0 := wr) w0.heap.size rfl (.tmp 36) (.tmp 41) 30 32 (.agg #[.int .i64 0, .int .i64 0]) 2 16 rfl Try.underlying30 info32 rfl (by decide) (by decide) (.slice (some ⟨g, 0, none⟩) (m + 1) cc) (m + 1) (pcs (o' ++ [(s, e)])) [.int .i64 x, .int .i64 (x + 1)] rfl rfl rfl (by simp [Value.oneCell']) HO0.out (Below.refl _ _) hsz (by omega) ?_; intro v1 w1 hown hbel hgrow hat; have HW1 := Aside0.mk (And.intro hown (HPB.out.grown hgrow hsz (fun k hk => own_blk HO0.out k hk))); clear hown hbel hgrow hat)
          go_roundg (gk - 1)
          case measure => have := HNX.out.2.2; omega
          case rel =>
            have h2 := HNX.out.1
            rw [HST.out] at h2
            exact ⟨k + 1, o' ++ [(s, e)] ++ [(x, x + 1)], by go_num, ⟨HNX.out.2.1, h2, by have := HI.out.2.2; simp at this ⊢; omega⟩, ⟨by
              unfold PR
              rw [pcs_snoc (o' ++ [(s, e)]), show (o' ++ [(s, e)] ++ [(x, x + 1)]).length = m + 1 + 1 by simp; exact HM.out]
              exact HW1.out.1, HW1.out.2, by simp⟩⟩
    · have hk : k = n := by have := HI.out.1; omega
      subst hk
      have HF : Aside0 (o = RES) := ⟨by
        have := HI.out.2.1
        rw [List.drop_eq_nil_of_le (by have := HL.out; omega)] at this
        exact this⟩
      have h1 : ¬ (k : Int) < k := by omega
      go_wp2
      go_ret
      rw [← HF.out]
      exact ⟨_, rfl, HP.out.1, HP.out.2.1⟩
end Go.Proofs.Ytfijbhacobjjgaf
