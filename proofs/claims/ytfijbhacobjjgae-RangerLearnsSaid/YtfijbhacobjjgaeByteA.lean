/- The contract of the decoder's byte. -/
import Derived.Test.YtfijbhacobjjgaeProg
import Derived.Test.YtfijbhacobjjgaeVals
import Derived.Test.YtfijbhacobjjgaeWLast
import Derived.Test.YtfijbhacobjjgaeWMore
import Derived.RegionTactic
import Derived.ChangeAlike
import Derived.BigRegion
import Derived.WalkLawsBesides
import Derived.WalkSpells
import Derived.Deep.LoopGhost
import Derived.Deep.QuietTactic
import Derived.BigQuiet
import Derived.OwnWalk
import Derived.Test.YtfijbhacobjjgaeReaderA
import Derived.Test.YtfijbhacobjjgaeLearnA
namespace Go.Proofs.Ytfijbhacobjjgae
open Go.RowKit Go.Proofs.YtfijbhacobjjgaeW.PrintWords Go.Proofs.YtfijbhacobjjgaeW.PrintLast Go.Proofs.YtfijbhacobjjgaeW.PrintMore Go.Proofs.Ytfijbhacobjjgae.Fr
set_option linter.unusedVariables false
set_option linter.unusedSimpArgs false
attribute [local go_sem] max2_int min2_int max_two min_two

open Pl
def XB (gr gm : Nat) (l h v : Int) : List Value := [.pointer (some ⟨gr, 0, none⟩), .int .u32 l, .int .u32 h, .int .u32 v, .pointer (some ⟨gm, 0, none⟩)]
def BytePost (gx gr gm : Nat) (l h v : Int) (T : ByteArray) (p : Nat) (w0 : World) (e : Ending) (w' : World) : Prop := e = .returned (.tuple #[]) ∧ Blk w' gx 51 id (XB gr gm l h (v % 16777216 * 256 + (bz T).getD p 0)) ∧ RD w' gr T (p + 1) ∧ Ch (fun i => i = gx ∨ i = gr) w0 w'
set_option maxRecDepth 100000 in
set_option maxHeartbeats 4000000 in
theorem byte_any (gx gr gm : Nat) (l h v : Int) (T : ByteArray) (p : Nat) (hne : gx ≠ gr) (hv0 : 0 ≤ v) (hv1 : v < 4294967296) (hT : T.size ≤ 1000000) (w0 : World) (hX : Blk w0 gx 51 id (XB gr gm l h v)) (hR : RD w0 gr T p) : Calls Try.prog 18 #[.pointer (some ⟨gx, 0, none⟩)] w0 (BytePost gx gr gm l h v T p w0) := by
  have HX := Aside0.mk hX
  have HR := Aside0.mk hR
  have hb := byt_get (bz_byt T) p
  unfold BytePost
  obtain ⟨b, hbb⟩ : ∃ b, (bz T).getD p 0 = b := ⟨_, rfl⟩
  have hFX : ∀ w, RD w gr T p → Calls Try.prog 32 #[.pointer (some ⟨gr, 0, none⟩), .int .i64 1] w fun e w' => e = .returned (.int .u64 b) ∧ RD w' gr T (p + 1) ∧ Ch (fun i => i = gr) w w' := fun w h => by
    have := fixed_one gr T p hT w h
    unfold FixPost at this
    rwa [hbb] at this
  have HFX := Aside0.mk hFX
  rw [hbb] at hb ⊢
  obtain ⟨b0, b1⟩ := hb
  obtain ⟨v2, hv2⟩ : ∃ v2, v % 16777216 * 256 + b = v2 := ⟨_, rfl⟩
  have e2 : bits .or .u32 (v * 256 % 4294967296) b = v2 := by rw [or32 (by omega) (by omega) (by omega) b0 b1]; omega
  have e1 : bits .or .u32 (IntKind.u32.wrap (v * 256)) (IntKind.u32.wrap b) = v2 := by rw [w32, w32, Int.emod_eq_of_lt b0 (by omega)]; exact e2
  have HV := Aside0.mk e1
  rw [hv2]
  clear hX hR e1 e2 hv2 hbb hFX
  go_enter Try.func18, Try.ntmps18
  go_wp2
  refine St.steadyG (n := 16) (by kernel_rfl) ([] :: [] :: [(1, 3)] :: [(2, 4)] :: [(3, 5)] :: [(4, 6)] :: [] :: [(6, 8)] :: [(7, 9)] :: [(8, 10)] :: [(9, 11)] :: [(10, 12)] :: [(5, 7), (11, 13)] :: [(0, 2)] :: [(13, 15)] :: [(12, 14), (14, 16)] :: []) (some 2 :: some 3 :: some 4 :: some 5 :: some 6 :: some 7 :: some 8 :: some 9 :: some 10 :: some 11 :: some 12 :: some 13 :: some 14 :: some 15 :: some 16 :: none :: []) (by kernel_rfl) ((St.eqT ?c0_0x3) :: (St.eqT ?c0_1x3) :: (St.eqT ?c0_2x3) :: (St.eqT ?c0_3x3) :: (St.eqT ?c0_4x3) :: (St.eqT ?c0_5x3) :: (St.eqT ?c0_6x3) :: (St.eqT ?c0_7x3) :: (St.eqT ?c0_8x3) :: (St.eqT ?c0_9x3) :: (St.eqT ?c0_10x3) :: (St.eqT ?c0_11x3) :: (St.eqT ?c0_12x3) :: (St.eqT ?c0_13x3) :: (St.eqT ?c0_14x3) :: (St.eqT undef) :: []) rfl (by rfl) (fun fl w' => Blk w' gx 51 id (XB gr gm l h (bif fl 15 then v2 else v)) ∧ RD w' gr T (bif fl 10 then p + 1 else p) ∧ Ch (fun i => i = gx ∨ i = gr) w0 w') (fun i wa wb => (i = 10 → RD wb gr T (p + 1) ∧ Ch (fun k => k = gr) wa wb) ∧ (i = 15 → wb = wa.setCell ⟨gx, 3, none⟩ (.int .u32 v2)) ∧ (i ≠ 10 → i ≠ 15 → wa = wb)) ?hst ?h0 (fun i w' => ∃ x q, Blk w' gx 51 id (XB gr gm l h x) ∧ RD w' gr T q ∧ (i = 4 → x = v) ∧ (i = 10 → q = p)) ?hB ?hG ?hop ?hend
  case hop =>
    refine ⟨?_, ?_, ?_, ?_, ?_, ?_, ?_, ?_, ?_, ?_, ?_, ?_, ?_, ?_, ?_, ?_, trivial⟩
    · intro w hB
      simp only [St.withD]
      refine St.ob_value (v := ?_) (w' := w) (by rfl) ?_ ⟨⟨fun e => absurd e (by decide), fun e => absurd e (by decide), fun _ _ => rfl⟩, ?_⟩
      rotate_left
      · go_simp
        with_reducible rfl
      · rfl
    · intro w hB
      simp only [St.withD]
      refine St.ob_value (v := ?_) (w' := w) (by rfl) ?_ ⟨⟨fun e => absurd e (by decide), fun e => absurd e (by decide), fun _ _ => rfl⟩, ?_⟩
      rotate_left
      · go_simp
        with_reducible rfl
      · rfl
    · intro w hB; rintro _ ⟨_, rfl⟩
      simp only [St.withD, List.nil_append, List.cons_append, Act.put, List.setIfInBounds_toArray, List.set_cons_zero, List.set_cons_succ]
      refine St.ob_value (v := ?_) (w' := w) (by rfl) ?_ ⟨⟨fun e => absurd e (by decide), fun e => absurd e (by decide), fun _ _ => rfl⟩, ?_⟩
      rotate_left
      · go_simp
        with_reducible rfl
      · rfl
    · intro w hB; rintro _ ⟨_, rfl⟩
      simp only [St.withD, List.nil_append, List.cons_append, Act.put, List.setIfInBounds_toArray, List.set_cons_zero, List.set_cons_succ]
      refine St.ob_value (v := ?_) (w' := w) (by rfl) ?_ ⟨⟨fun e => absurd e (by decide), fun e => absurd e (by decide), fun _ _ => rfl⟩, ?_⟩
      rotate_left
      · go_simp
        with_reducible rfl
      · rfl
    · intro w hB; rintro _ ⟨_, rfl⟩
      simp only [St.withD, List.nil_append, List.cons_append, Act.put, List.setIfInBounds_toArray, List.set_cons_zero, List.set_cons_succ]
      obtain ⟨x, q, hX, hQ, hx4, hq10⟩ := hB
      have c3 : w.cell? ⟨gx, 3, none⟩ = some (.int .u32 v) := by rw [← hx4 rfl]; exact hX.cell 3 undef (by simp [XB])
      refine St.ob_value (v := ?_) (w' := w) (by rfl) ?_ ⟨⟨fun e => absurd e (by decide), fun e => absurd e (by decide), fun _ _ => rfl⟩, ?_⟩
      rotate_left
      · go_simp
        with_reducible rfl
      · rfl
    · intro w hB; rintro _ ⟨_, rfl⟩
      simp only [St.withD, List.nil_append, List.cons_append, Act.put, List.setIfInBounds_toArray, List.set_cons_zero, List.set_cons_succ]
      refine St.ob_value (v := ?_) (w' := w) (by rfl) ?_ ⟨⟨fun e => absurd e (by decide), fun e => absurd e (by decide), fun _ _ => rfl⟩, ?_⟩
      rotate_left
      · go_simp
        with_reducible rfl
      · rfl
    · intro w hB
      simp only [St.withD]
      refine St.ob_value (v := ?_) (w' := w) (by rfl) ?_ ⟨⟨fun e => absurd e (by decide), fun e => absurd e (by decide), fun _ _ => rfl⟩, ?_⟩
      rotate_left
      · go_simp
        with_reducible rfl
      · rfl
    · intro w hB; rintro _ ⟨_, rfl⟩
      simp only [St.withD, List.nil_append, List.cons_append, Act.put, List.setIfInBounds_toArray, List.set_cons_zero, List.set_cons_succ]
      refine St.ob_value (v := ?_) (w' := w) (by rfl) ?_ ⟨⟨fun e => absurd e (by decide), fun e => absurd e (by decide), fun _ _ => rfl⟩, ?_⟩
      rotate_left
      · go_simp
        with_reducible rfl
      · rfl
    · intro w hB; rintro _ ⟨_, rfl⟩
      simp only [St.withD, List.nil_append, List.cons_append, Act.put, List.setIfInBounds_toArray, List.set_cons_zero, List.set_cons_succ]
      refine St.ob_value (v := ?_) (w' := w) (by rfl) ?_ ⟨⟨fun e => absurd e (by decide), fun e => absurd e (by decide), fun _ _ => rfl⟩, ?_⟩
      rotate_left
      · go_simp
        with_reducible rfl
      · rfl
    · intro w hB; rintro _ ⟨_, rfl⟩
      simp only [St.withD, List.nil_append, List.cons_append, Act.put, List.setIfInBounds_toArray, List.set_cons_zero, List.set_cons_succ]
      obtain ⟨x, q, hX, hQ, hx4, hq10⟩ := hB
      have c0 : w.cell? ⟨gx, 0, none⟩ = some (.pointer (some ⟨gr, 0, none⟩)) := hX.cell 0 undef (by simp [XB])
      have c3 : w.cell? ⟨gx, 3, none⟩ = some (.int .u32 x) := hX.cell 3 undef (by simp [XB])
      refine St.ob_value (v := ?_) (w' := w) (by rfl) ?_ ⟨⟨fun e => absurd e (by decide), fun e => absurd e (by decide), fun _ _ => rfl⟩, ?_⟩
      rotate_left
      · go_simp
        with_reducible rfl
      · rfl
    · intro w hB; rintro _ ⟨_, rfl⟩
      simp only [St.withD, List.nil_append, List.cons_append, Act.put, List.setIfInBounds_toArray, List.set_cons_zero, List.set_cons_succ]
      obtain ⟨x, q, hX, hQ, hx4, hq10⟩ := hB
      obtain rfl := hq10 rfl
      refine St.ob_call Try.func32 (by kernel_rfl) rfl #[.pointer (some ⟨gr, 0, none⟩), .int .i64 1] (by rfl) rfl (by (try simp only [List.map_toArray, List.map_cons, List.map_nil]); first | done | rfl | (simp only [List.length_drop, List.length_take]; rfl)) ?_
      refine (HFX.out w hQ).mono ?_
      rintro e w1 ⟨rfl, hr1, hc1⟩
      refine ⟨_, rfl, ⟨fun _ => ⟨hr1, hc1⟩, fun e => absurd e (by decide), fun e => absurd rfl e⟩, ?_⟩
      rfl
    · intro w hB; rintro _ ⟨_, rfl⟩
      simp only [St.withD, List.nil_append, List.cons_append, Act.put, List.setIfInBounds_toArray, List.set_cons_zero, List.set_cons_succ]
      refine St.ob_value (v := ?_) (w' := w) (by rfl) ?_ ⟨⟨fun e => absurd e (by decide), fun e => absurd e (by decide), fun _ _ => rfl⟩, ?_⟩
      rotate_left
      · go_simp
        with_reducible rfl
      · rfl
    · intro w hB; rintro _ ⟨_, rfl⟩ _ ⟨_, rfl⟩
      simp only [St.withD, List.nil_append, List.cons_append, Act.put, List.setIfInBounds_toArray, List.set_cons_zero, List.set_cons_succ]
      refine St.ob_value (v := .int .u32 v2) (w' := w) (by rfl) ?_ ⟨⟨fun e => absurd e (by decide), fun e => absurd e (by decide), fun _ _ => rfl⟩, ?_⟩
      · go_simp
        exact congrArg (fun x => x) HV.out
      · rfl
    · intro w hB; rintro _ ⟨_, rfl⟩
      simp only [St.withD, List.nil_append, List.cons_append, Act.put, List.setIfInBounds_toArray, List.set_cons_zero, List.set_cons_succ]
      refine St.ob_value (v := ?_) (w' := w) (by rfl) ?_ ⟨⟨fun e => absurd e (by decide), fun e => absurd e (by decide), fun _ _ => rfl⟩, ?_⟩
      rotate_left
      · go_simp
        with_reducible rfl
      · rfl
    · intro w hB; rintro _ ⟨_, rfl⟩
      simp only [St.withD, List.nil_append, List.cons_append, Act.put, List.setIfInBounds_toArray, List.set_cons_zero, List.set_cons_succ]
      refine St.ob_value (v := ?_) (w' := w) (by rfl) ?_ ⟨⟨fun e => absurd e (by decide), fun e => absurd e (by decide), fun _ _ => rfl⟩, ?_⟩
      rotate_left
      · go_simp
        with_reducible rfl
      · rfl
    · intro w hB; rintro _ ⟨_, rfl⟩ _ ⟨_, rfl⟩
      simp only [St.withD, List.nil_append, List.cons_append, Act.put, List.setIfInBounds_toArray, List.set_cons_zero, List.set_cons_succ]
      obtain ⟨x, q, hX, hQ, hx4, hq10⟩ := hB
      have c3 : w.cell? ⟨gx, 3, none⟩ = some (.int .u32 x) := hX.cell 3 undef (by simp [XB])
      have f3 := hX.free 3
      refine St.ob_skip (w' := w.setCell ⟨gx, 3, none⟩ (.int .u32 v2)) (by rfl) ?_ ⟨⟨fun e => absurd e (by decide), fun _ => rfl, fun _ e => absurd rfl e⟩, rfl⟩
      go_simp
  case hst =>
    intro i j fl hi hj _ _ _ ds v wa wb ht _
    refine St.sts_get (Rel := fun _ _ _ => True) 0 _ j (by simpa using hj) ?_ ds v wa wb ht trivial
    exact ⟨St.eqT_st, St.eqT_st, St.eqT_st, St.eqT_st, St.eqT_st, St.eqT_st, St.eqT_st, St.eqT_st, St.eqT_st, St.eqT_st, St.eqT_st, St.eqT_st, St.eqT_st, St.eqT_st, St.eqT_st, St.eqT_st, trivial⟩
  case h0 => exact ⟨HX.out, HR.out, (Ch.refl _ _).drew⟩
  case hB => exact fun i fl w' hi hfi _ hcl hG => ⟨_, _, hG.1, hG.2.1, (fun e => by
      subst e
      cases h15 : fl 15 with
      | false => rfl
      | true =>
        have := hcl 15 4 h15 (by kernel_rfl)
        rw [hfi] at this
        cases this), (fun e => by subst e; rw [hfi]; rfl)⟩
  case hG => (
    intro i fl wa wb hi hfi _ _ hG hR
    by_cases h10 : i = 10
    · subst h10
      obtain ⟨hr, hc⟩ := hR.1 rfl
      have e15 : St.upB fl 10 15 = fl 15 := by unfold St.upB; rw [if_neg (by decide)]
      have e10 : St.upB fl 10 10 = true := by unfold St.upB; rw [if_pos rfl]
      rw [e15, e10]
      exact ⟨hG.1.ch hc hne, hr, hG.2.2.trans (hc.mono fun i _ e => Or.inr e)⟩
    · by_cases h15 : i = 15
      · subst h15
        have e := hR.2.1 rfl
        subst e
        have e15 : St.upB fl 15 15 = true := by unfold St.upB; rw [if_pos rfl]
        have e10 : St.upB fl 15 10 = fl 10 := by unfold St.upB; rw [if_neg (by decide)]
        rw [e15, e10]
        exact ⟨hG.1.put 3 (.int .u32 v2), blk_far hG.2.1 (Ne.symm hne) _, hG.2.2.set (Or.inl rfl)⟩
      · have e := hR.2.2 h10 h15
        subst e
        have e15 : St.upB fl i 15 = fl 15 := by unfold St.upB; rw [if_neg (Ne.symm h15)]
        have e10 : St.upB fl i 10 = fl 10 := by unfold St.upB; rw [if_neg (Ne.symm h10)]
        rw [e15, e10]
        exact hG)
  case hend =>
    intro fl w hall hB
    rintro _ rfl _ rfl _ rfl _ rfl _ rfl _ rfl _ rfl _ rfl _ rfl _ rfl _ rfl _ rfl _ rfl _ rfl _ rfl _ rfl
    simp only [List.map_cons, List.map_nil, List.nil_append, List.cons_append, List.getD_cons_zero, List.getD_cons_succ, Act.put, List.setIfInBounds_toArray, List.set_cons_zero, List.set_cons_succ]
    rw [St.withE_nil]
    have HT : Aside0 (Blk w gx 51 id (XB gr gm l h v2) ∧ RD w gr T (p + 1) ∧ Ch (fun i => i = gx ∨ i = gr) w0 w) := ⟨by have h10 := hall 10 (by decide); have h15 := hall 15 (by decide); simpa only [h10, h15, cond_true] using hB⟩
    clear hB hall
    go_wp2
    go_end0
    exact ⟨rfl, HT.out.1, HT.out.2.1, HT.out.2.2⟩
end Go.Proofs.Ytfijbhacobjjgae
