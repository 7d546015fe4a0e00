/- The contract of the decoder's bit. -/
import Derived.Test.YtfijbhacobjjgaeProg
import Derived.Test.YtfijbhacobjjgaeVals
import Derived.Test.YtfijbhacobjjgaeWLast
import Derived.Test.YtfijbhacobjjgaeWMore
import Derived.RegionTactic
import Derived.ChangeAlike
import Derived.BigRegion
import Derived.WalkLawsBesides
import Derived.WalkSpells
import Derived.Deep.LoopGhost
import Derived.Deep.QuietTactic
import Derived.BigQuiet
import Derived.OwnWalk
import Derived.Test.YtfijbhacobjjgaeByteA
namespace Go.Proofs.Ytfijbhacobjjgae
open Go.RowKit Go.Proofs.YtfijbhacobjjgaeW.PrintWords Go.Proofs.YtfijbhacobjjgaeW.PrintLast Go.Proofs.YtfijbhacobjjgaeW.PrintMore Go.Proofs.Ytfijbhacobjjgae.Fr
set_option linter.unusedVariables false
set_option linter.unusedSimpArgs false
attribute [local go_sem] max2_int min2_int max_two min_two

open Pl
structure DS (w : World) (gx gr gm : Nat) (T : ByteArray) (a : Nat) (s : Cs) : Prop where
  box : Blk w gx 51 id (XB gr gm s.l s.h (V ((bz T).drop a)))
  rdr : RD w gr T (a + 4)
  mod : Blk w gm 66 (Value.int .i64) s.c
  ne : gx ≠ gr ∧ gx ≠ gm ∧ gr ≠ gm
theorem DS.below {w w1 : World} {gx gr gm : Nat} {T : ByteArray} {a : Nat} {s : Cs} (h : DS w gx gr gm T a s) (hb : Below w.heap.size w w1) : DS w1 gx gr gm T a s := ⟨h.box.below hb, blk_below h.rdr hb, h.mod.below hb, h.ne⟩
theorem V_drop {B : List Int} (hB : Byt B) (a : Nat) : V (B.drop (a + 1)) = V (B.drop a) % 16777216 * 256 + B.getD (a + 4) 0 := by
  have e : ∀ k j, (B.drop k).getD j 0 = B.getD (k + j) 0 := fun k j => by simp [List.getD_eq_getElem?_getD]
  have h0 := byt_get hB (a + 0)
  have h1 := byt_get hB (a + 1)
  have h2 := byt_get hB (a + 2)
  have h3 := byt_get hB (a + 3)
  simp only [V, e, show a + 1 + 0 = a + 1 by omega, show a + 1 + 1 = a + 2 by omega, show a + 1 + 2 = a + 3 by omega, show a + 1 + 3 = a + 4 by omega]
  omega
/-- Within the decoder's bit: the ends move. -/
structure SS (w0 : World) (gx gr gm : Nat) (T : ByteArray) (c : List Int) (w : World) (l h : Int) (a : Nat) : Prop where
  box : Blk w gx 51 id (XB gr gm l h (V ((bz T).drop a)))
  rdr : RD w gr T (a + 4)
  mod : Blk w gm 66 (Value.int .i64) c
  ne : gx ≠ gr ∧ gx ≠ gm ∧ gr ≠ gm
  ch : Ch (fun i => i = gx ∨ i = gr ∨ i = gm) w0 w
section
variable {w0 w w1 : World} {gx gr gm : Nat} {T : ByteArray} {c : List Int} {l h : Int} {a : Nat}
theorem SS.below (x : SS w0 gx gr gm T c w l h a) (hb : Below w.heap.size w w1) : SS w0 gx gr gm T c w1 l h a := ⟨x.box.below hb, blk_below x.rdr hb, x.mod.below hb, x.ne, x.ch.below_then hb⟩
theorem SS.moved (x : SS w0 gx gr gm T c w l h a) (l2 h2 : Int) : SS w0 gx gr gm T c ((w.setCell ⟨gx, 1, none⟩ (.int .u32 l2)).setCell ⟨gx, 2, none⟩ (.int .u32 h2)) l2 h2 a := ⟨by
    have e := (x.box.put 1 (.int .u32 l2)).put 2 (.int .u32 h2)
    exact e, blk_far (p := ⟨gx, 2, none⟩) (blk_far (p := ⟨gx, 1, none⟩) x.rdr (Ne.symm x.ne.1) (.int .u32 l2)) (Ne.symm x.ne.1) (.int .u32 h2), (x.mod.far (Ne.symm x.ne.2.1) 1 _).far (Ne.symm x.ne.2.1) 2 _, x.ne, (x.ch.set (g := gx) (Or.inl rfl)).set (g := gx) (Or.inl rfl)⟩
end
def BitPost (gx gr gm : Nat) (T : ByteArray) (a : Nat) (s : Cs) (n : Nat) (w0 : World) (e : Ending) (w' : World) : Prop := e = .returned (.bool (db ((bz T).drop a) n s)) ∧ DS w' gx gr gm T (a + (out s n (db ((bz T).drop a) n s)).length) (put s n (db ((bz T).drop a) n s)) ∧ Ch (fun i => i = gx ∨ i = gr ∨ i = gm) w0 w'
set_option maxRecDepth 100000 in
set_option maxHeartbeats 4000000 in
theorem bit_any (gx gr gm : Nat) (T : ByteArray) (a : Nat) (s : Cs) (n : Nat) (hn1 : 1 ≤ n) (hn2 : n < 256) (hT : T.size ≤ 1000000) (hO : OkS s) (w0 : World) (hD : DS w0 gx gr gm T a s) : Calls Try.prog 21 #[.pointer (some ⟨gx, 0, none⟩), .int .i64 n] w0 (BitPost gx gr gm T a s n w0) := by
  have HD := Aside0.mk hD
  have hp := hO.2.2.2.2.2 n hn2
  have hlt : s.l < s.h := by
    obtain ⟨x1, x2, x3, x4, x5⟩ := hO
    omega
  have HO := Aside0.mk hO
  unfold BitPost
  obtain ⟨b, hb⟩ : ∃ b, db ((bz T).drop a) n s = b := ⟨_, rfl⟩
  rw [hb]
  unfold db at hb
  have HCH0 : ∀ w : World, Blk w gm 66 (Value.int .i64) s.c → Calls Try.prog 16 #[.pointer (some ⟨gm, 0, none⟩), .int .i64 n] w fun e w' => e = .returned (.int .i64 (s.c.getD n 0)) ∧ w' = w := fun w h => chance_yes gm n s.c hn1 hn2 w h hO.2.2.2.2.1
  have hcl : cl s n b = if b then s.l else mid s.l s.h (s.c.getD n 0) + 1 := rfl
  have hcu : cu s n b = if b then mid s.l s.h (s.c.getD n 0) else s.h := rfl
  obtain ⟨x, hx⟩ : ∃ x, s.c.getD n 0 = x := ⟨_, rfl⟩
  rw [hx] at hp hb HCH0 hcl hcu
  have HCH := Aside0.mk HCH0
  have hmm := mid_in hlt hp.1 hp.2
  have HMD0 := middle_any s.l s.h x hO.1 hlt hO.2.2.1 hp.1 hp.2
  obtain ⟨m, hm⟩ : ∃ m, mid s.l s.h x = m := ⟨_, rfl⟩
  rw [hm] at hb hcl hcu hmm HMD0
  have HMD := Aside0.mk HMD0
  obtain ⟨v, hv⟩ : ∃ v, V ((bz T).drop a) = v := ⟨_, rfl⟩
  rw [hv] at hb
  have HVV := Aside0.mk hv
  have HBB : Aside0 (decide (v ≤ m) = b) := ⟨hb⟩
  have HCU : Aside0 (∀ w : World, Calls Try.prog 24 #[.agg #[.int .u32 s.l, .int .u32 s.h], .int .u32 m, .bool b] w fun e w' => e = .returned (.agg #[.int .u32 (cl s n b), .int .u32 (cu s n b)]) ∧ Below w.heap.size w w') := ⟨by
    rw [hcl, hcu]
    exact cut_any s.l s.h m b (fun _ => by have := hO.1; have := hO.2.2.1; omega)⟩
  have hn0 : (0 : Int) ≤ n := by omega
  have HWD := Aside0.mk (cut_wd hO hn2 b)
  obtain ⟨l1, hl1⟩ : ∃ l1, cl s n b = l1 := ⟨_, rfl⟩
  obtain ⟨h1, hh1⟩ : ∃ h1, cu s n b = h1 := ⟨_, rfl⟩
  have HPO : Aside0 (out s n b = (norm 4 l1 h1).1 ∧ put s n b = ⟨(norm 4 l1 h1).2.1, (norm 4 l1 h1).2.2, lrn s.c n b⟩) := ⟨by rw [← hl1, ← hh1]; exact ⟨rfl, rfl⟩⟩
  rw [hl1, hh1] at HCU HWD
  clear hD hO hb hp hlt hx HCH0 HMD0 hm hv hcl hcu hmm hl1 hh1
  go_enter Try.func21, Try.ntmps21
  go_wp2
  refine St.steadyR (n := 12) (by kernel_rfl) ([] :: [(0, 7)] :: [(1, 8)] :: [(2, 9)] :: [] :: [(4, 11)] :: [(5, 12)] :: [(6, 13)] :: [] :: [(7, 14), (8, 15)] :: [(3, 10), (9, 16)] :: [(10, 17)] :: []) (some 7 :: some 8 :: some 9 :: some 10 :: some 11 :: some 12 :: some 13 :: some 14 :: some 15 :: some 16 :: some 17 :: some 5 :: []) (by kernel_rfl) ((St.eqT ?c1_0x4) :: (St.eqT ?c1_1x4) :: (St.eqT ?c1_2x4) :: (St.eqT ?c1_3x4) :: (St.eqT ?c1_4x4) :: (St.eqT ?c1_5x4) :: (St.eqT ?c1_6x4) :: (St.eqT ?c1_7x4) :: (St.eqT ?c1_8x4) :: (St.eqT ?c1_9x4) :: (St.eqT ?c1_10x4) :: (St.eqT ?c1_11x4) :: []) rfl (by rfl) (fun w' => Below w0.heap.size w0 w') (fun w w' => Below w.heap.size w w') ?hst ?h0 ?hB ?hop ?hend
  case hop =>
    refine ⟨?_, ?_, ?_, ?_, ?_, ?_, ?_, ?_, ?_, ?_, ?_, ?_, trivial⟩
    · intro w hB
      simp only [St.withD]
      refine St.ob_value (v := ?_) (w' := w) (by rfl) ?_ ⟨Below.refl _ _, ?_⟩
      rotate_left
      · go_simp
        with_reducible rfl
      · rfl
    · intro w hB; rintro _ ⟨_, rfl⟩
      simp only [St.withD, List.nil_append, List.cons_append, Act.put, List.setIfInBounds_toArray, List.set_cons_zero, List.set_cons_succ]
      refine St.ob_value (v := ?_) (w' := w) (by rfl) ?_ ⟨Below.refl _ _, ?_⟩
      rotate_left
      · go_simp
        with_reducible rfl
      · rfl
    · intro w hB; rintro _ ⟨_, rfl⟩
      simp only [St.withD, List.nil_append, List.cons_append, Act.put, List.setIfInBounds_toArray, List.set_cons_zero, List.set_cons_succ]
      refine St.ob_value (v := ?_) (w' := w) (by rfl) ?_ ⟨Below.refl _ _, ?_⟩
      rotate_left
      · go_simp
        with_reducible rfl
      · rfl
    · intro w hB; rintro _ ⟨_, rfl⟩
      simp only [St.withD, List.nil_append, List.cons_append, Act.put, List.setIfInBounds_toArray, List.set_cons_zero, List.set_cons_succ]
      have hbx := HD.out.box.below hB
      have hmd := HD.out.mod.below hB
      have c1 : w.cell? ⟨gx, 1, none⟩ = some (.int .u32 s.l) := hbx.cell 1 undef (by simp [XB])
      have c2 : w.cell? ⟨gx, 2, none⟩ = some (.int .u32 s.h) := hbx.cell 2 undef (by simp [XB])
      have c4 : w.cell? ⟨gx, 4, none⟩ = some (.pointer (some ⟨gm, 0, none⟩)) := hbx.cell 4 undef (by simp [XB])
      refine St.ob_value (v := ?_) (w' := w) (by rfl) ?_ ⟨Below.refl _ _, ?_⟩
      rotate_left
      · go_simp
        with_reducible rfl
      · rfl
    · intro w hB
      simp only [St.withD]
      refine St.ob_value (v := ?_) (w' := w) (by rfl) ?_ ⟨Below.refl _ _, ?_⟩
      rotate_left
      · go_simp
        with_reducible rfl
      · rfl
    · intro w hB; rintro _ ⟨_, rfl⟩
      simp only [St.withD, List.nil_append, List.cons_append, Act.put, List.setIfInBounds_toArray, List.set_cons_zero, List.set_cons_succ]
      refine St.ob_value (v := ?_) (w' := w) (by rfl) ?_ ⟨Below.refl _ _, ?_⟩
      rotate_left
      · go_simp
        with_reducible rfl
      · rfl
    · intro w hB; rintro _ ⟨_, rfl⟩
      simp only [St.withD, List.nil_append, List.cons_append, Act.put, List.setIfInBounds_toArray, List.set_cons_zero, List.set_cons_succ]
      refine St.ob_value (v := ?_) (w' := w) (by rfl) ?_ ⟨Below.refl _ _, ?_⟩
      rotate_left
      · go_simp
        with_reducible rfl
      · rfl
    · intro w hB; rintro _ ⟨_, rfl⟩
      simp only [St.withD, List.nil_append, List.cons_append, Act.put, List.setIfInBounds_toArray, List.set_cons_zero, List.set_cons_succ]
      have hbx := HD.out.box.below hB
      have hmd := HD.out.mod.below hB
      have c1 : w.cell? ⟨gx, 1, none⟩ = some (.int .u32 s.l) := hbx.cell 1 undef (by simp [XB])
      have c2 : w.cell? ⟨gx, 2, none⟩ = some (.int .u32 s.h) := hbx.cell 2 undef (by simp [XB])
      have c4 : w.cell? ⟨gx, 4, none⟩ = some (.pointer (some ⟨gm, 0, none⟩)) := hbx.cell 4 undef (by simp [XB])
      refine St.ob_value (v := ?_) (w' := w) (by rfl) ?_ ⟨Below.refl _ _, ?_⟩
      rotate_left
      · go_simp
        with_reducible rfl
      · rfl
    · intro w hB
      simp only [St.withD]
      refine St.ob_value (v := ?_) (w' := w) (by rfl) ?_ ⟨Below.refl _ _, ?_⟩
      rotate_left
      · go_simp
        with_reducible rfl
      · rfl
    · intro w hB; rintro _ ⟨_, rfl⟩ _ ⟨_, rfl⟩
      simp only [St.withD, List.nil_append, List.cons_append, Act.put, List.setIfInBounds_toArray, List.set_cons_zero, List.set_cons_succ]
      refine St.ob_call Try.func16 (by kernel_rfl) rfl #[.pointer (some ⟨gm, 0, none⟩), .int .i64 n] (by rfl) rfl (by (try simp only [List.map_toArray, List.map_cons, List.map_nil]); first | done | rfl | (simp only [List.length_drop, List.length_take]; rfl)) ?_
      refine (HCH.out w (HD.out.mod.below hB)).mono ?_
      rintro e w1 ⟨rfl, rfl⟩
      refine ⟨_, rfl, Below.refl _ _, ?_⟩
      rfl
    · intro w hB; rintro _ ⟨_, rfl⟩ _ ⟨_, rfl⟩
      simp only [St.withD, List.nil_append, List.cons_append, Act.put, List.setIfInBounds_toArray, List.set_cons_zero, List.set_cons_succ]
      refine St.ob_call Try.func25 (by kernel_rfl) rfl #[.agg #[.int .u32 s.l, .int .u32 s.h], .int .i64 x] (by rfl) rfl (by (try simp only [List.map_toArray, List.map_cons, List.map_nil]); first | done | rfl | (simp only [List.length_drop, List.length_take]; rfl)) ?_
      refine (HMD.out w).mono ?_
      rintro e w1 ⟨rfl, hb1⟩
      refine ⟨_, rfl, hb1, ?_⟩
      rfl
    · intro w hB; rintro _ ⟨_, rfl⟩
      simp only [St.withD, List.nil_append, List.cons_append, Act.put, List.setIfInBounds_toArray, List.set_cons_zero, List.set_cons_succ]
      refine St.ob_value (v := ?_) (w' := w) (by rfl) ?_ ⟨Below.refl _ _, ?_⟩
      rotate_left
      · go_simp
        with_reducible rfl
      · rfl
  case hst => exact ⟨St.eqT_st, St.eqT_st, St.eqT_st, St.eqT_st, St.eqT_st, St.eqT_st, St.eqT_st, St.eqT_st, St.eqT_st, St.eqT_st, St.eqT_st, St.eqT_st, trivial⟩
  case h0 => exact below_drew1 (Below.refl _ _)
  case hB => exact fun w w' h k => h.trans (k.mono h.size)
  case hend =>
    intro w hB
    rintro _ rfl _ rfl _ rfl _ rfl _ rfl _ rfl _ rfl _ rfl _ rfl _ rfl _ rfl _ rfl
    simp only [List.map_cons, List.map_nil, List.nil_append, List.cons_append, List.getD_cons_zero, List.getD_cons_succ, Act.put, List.setIfInBounds_toArray, List.set_cons_zero, List.set_cons_succ]
    rw [St.withE_nil]
    have HB1 := Aside0.mk hB
    have HD1 : Aside0 (DS w gx gr gm T a s) := ⟨HD.out.below hB⟩
    clear hB
    have c3 : w.cell? ⟨gx, 3, none⟩ = some (.int .u32 v) := by rw [← HVV.out]; exact HD1.out.box.cell 3 undef (by simp [XB])
    have c1 : w.cell? ⟨gx, 1, none⟩ = some (.int .u32 s.l) := HD1.out.box.cell 1 undef (by simp [XB])
    have c2 : w.cell? ⟨gx, 2, none⟩ = some (.int .u32 s.h) := HD1.out.box.cell 2 undef (by simp [XB])
    go_wp2_with fail
    rw [HBB.out]
    refine (HCU.out w).mono ?_
    rintro e w2 ⟨rfl, hb2⟩
    have HB2 : Aside0 (Below w0.heap.size w0 w2) := ⟨HB1.out.trans (hb2.mono HB1.out.size)⟩
    have HD2 : Aside0 (DS w2 gx gr gm T a s) := ⟨HD1.out.below hb2⟩
    have f1 := HD2.out.box.free
    have k1 : w2.cell? ⟨gx, 1, none⟩ = some (.int .u32 s.l) := HD2.out.box.cell 1 undef (by simp [XB])
    have k2 : w2.cell? ⟨gx, 2, none⟩ = some (.int .u32 s.h) := HD2.out.box.cell 2 undef (by simp [XB])
    clear hb2 c1 c2 c3
    go_wp2
    have HS : Aside0 (SS w0 gx gr gm T s.c ((w2.setCell ⟨gx, 1, none⟩ (.int .u32 l1)).setCell ⟨gx, 2, none⟩ (.int .u32 h1)) l1 h1 a) := ⟨SS.moved ⟨HD2.out.box, HD2.out.rdr, HD2.out.mod, HD2.out.ne, Ch.of_below HB2.out⟩ l1 h1⟩
    generalize (w2.setCell ⟨gx, 1, none⟩ (.int .u32 l1)).setCell ⟨gx, 2, none⟩ (.int .u32 h1) = W at HS ⊢
    clear f1 k1 k2 HB1 HB2 HD1 HD2 HCU HMD HCH HVV HBB
    go_loopg [] 4 (fun gk wr => ∃ (l h : Int) (a1 : Nat), Aside0 (Wd gk l h ∧ (norm gk l h).2 = (norm 4 l1 h1).2 ∧ a1 + (norm gk l h).1.length = a + (norm 4 l1 h1).1.length) ∧ Aside0 (SS w0 gx gr gm T s.c wr l h a1))
    case atStart => exact ⟨l1, h1, a, ⟨HWD.out, rfl, rfl⟩, HS⟩
    case round =>
      clear HS HWD
      obtain ⟨l, h, a1, HI, HS⟩ := hrel
      obtain ⟨hw, hn2', hla⟩ := HI.out
      have HAL : Aside0 (∀ w : World, Calls Try.prog 26 #[.agg #[.int .u32 l, .int .u32 h]] w fun e w' => e = .returned (.bool (l / 16777216 == h / 16777216)) ∧ Below w.heap.size w w') := ⟨fun w => alike_any l h w⟩
      have c1 : wr.cell? ⟨gx, 1, none⟩ = some (.int .u32 l) := HS.out.box.cell 1 undef (by simp [XB])
      have c2 : wr.cell? ⟨gx, 2, none⟩ = some (.int .u32 h) := HS.out.box.cell 2 undef (by simp [XB])
      by_cases he : l / 16777216 = h / 16777216
      · obtain ⟨f, rfl⟩ : ∃ f, gk = f + 1 := ⟨gk - 1, by
          rcases Nat.eq_zero_or_pos gk with e | e
          · subst e; exact absurd he (wd_zero hw)
          · omega⟩
        have hwm := wd_moved hw he
        have hnn : norm (f + 1) l h = (l / 16777216 :: (norm f (l % 16777216 * 256) (h % 16777216 * 256 + 255)).1, (norm f (l % 16777216 * 256) (h % 16777216 * 256 + 255)).2) := by
          show (if _ then _ else _) = _
          rw [if_pos he]
        rw [hnn] at hn2' hla
        simp only [List.length_cons] at hn2' hla
        have HNX : Aside0 (Wd f (l % 16777216 * 256) (h % 16777216 * 256 + 255) ∧ (norm f (l % 16777216 * 256) (h % 16777216 * 256 + 255)).2 = (norm 4 l1 h1).2 ∧ (a1 + 1) + (norm f (l % 16777216 * 256) (h % 16777216 * 256 + 255)).1.length = a + (norm 4 l1 h1).1.length) := ⟨hwm, hn2', by omega⟩
        have HMV : Aside0 (∀ w : World, Calls Try.prog 27 #[.agg #[.int .u32 l, .int .u32 h]] w fun e w' => e = .returned (.agg #[.int .u32 (l % 16777216 * 256), .int .u32 (h % 16777216 * 256 + 255)]) ∧ Below w.heap.size w w') := ⟨moved_any l h hw.1 (by have := hw.2.1; have := hw.2.2.1; omega) (by have := hw.1; have := hw.2.1; omega) hw.2.2.1⟩
        have hq : (l / 16777216 == h / 16777216) = true := beq_iff_eq.2 he
        obtain ⟨l2, hl2⟩ : ∃ l2, l % 16777216 * 256 = l2 := ⟨_, rfl⟩
        obtain ⟨h2, hh2⟩ : ∃ h2, h % 16777216 * 256 + 255 = h2 := ⟨_, rfl⟩
        rw [hl2, hh2] at HNX HMV
        clear hw hn2' hla he hwm hnn HI hl2 hh2
        go_wp2_with fail
        refine (HAL.out _).mono ?_
        rintro e w3 ⟨rfl, hb3⟩
        rw [hq]
        have HS3 : Aside0 (SS w0 gx gr gm T s.c w3 l h a1) := ⟨HS.out.below hb3⟩
        have HBY : Aside0 (Calls Try.prog 18 #[.pointer (some ⟨gx, 0, none⟩)] w3 (BytePost gx gr gm l h (V ((bz T).drop a1)) T (a1 + 4) w3)) := ⟨byte_any gx gr gm l h _ T (a1 + 4) HS3.out.ne.1 (V_in (byt_drop (bz_byt T) a1)).1 (V_in (byt_drop (bz_byt T) a1)).2 hT w3 HS3.out.box HS3.out.rdr⟩
        clear hb3 c1 c2 HS
        go_wp2_with fail
        refine HBY.out.mono ?_
        rintro e w4 ⟨rfl, hx4, hr4, hc4⟩
        rw [← V_drop (bz_byt T)] at hx4
        have HS4 : Aside0 (SS w0 gx gr gm T s.c w4 l h (a1 + 1)) := ⟨⟨hx4, by rw [show a1 + 1 + 4 = a1 + 4 + 1 by omega]; exact hr4, HS3.out.mod.ch hc4 (fun e => e.elim (fun e => HS3.out.ne.2.1 e.symm) (fun e => HS3.out.ne.2.2 e.symm)), HS3.out.ne, HS3.out.ch.trans (hc4.mono fun i _ e => e.elim Or.inl (fun e => Or.inr (Or.inl e)))⟩⟩
        have c1 : w4.cell? ⟨gx, 1, none⟩ = some (.int .u32 l) := HS4.out.box.cell 1 undef (by simp [XB])
        have c2 : w4.cell? ⟨gx, 2, none⟩ = some (.int .u32 h) := HS4.out.box.cell 2 undef (by simp [XB])
        clear hx4 hr4 hc4 HBY HS3
        go_wp2_with fail
        refine (HMV.out _).mono ?_
        rintro e w5 ⟨rfl, hb5⟩
        have HS5 : Aside0 (SS w0 gx gr gm T s.c w5 l h (a1 + 1)) := ⟨HS4.out.below hb5⟩
        have f1 := HS5.out.box.free
        have k1 : w5.cell? ⟨gx, 1, none⟩ = some (.int .u32 l) := HS5.out.box.cell 1 undef (by simp [XB])
        have k2 : w5.cell? ⟨gx, 2, none⟩ = some (.int .u32 h) := HS5.out.box.cell 2 undef (by simp [XB])
        clear hb5 c1 c2 HS4
        go_wp2
        go_roundg f
        case measure => omega
        case rel => exact ⟨l2, h2, a1 + 1, HNX, ⟨HS5.out.moved l2 h2⟩⟩
      · have hnn : norm gk l h = ([], l, h) := by
          cases gk with
          | zero => rfl
          | succ f =>
            show (if _ then _ else _) = _
            rw [if_neg he]
        rw [hnn] at hn2' hla
        have HFN : Aside0 (out s n b = (norm 4 l1 h1).1 ∧ put s n b = ⟨l, h, lrn s.c n b⟩ ∧ a1 = a + (norm 4 l1 h1).1.length) := ⟨HPO.out.1, by rw [HPO.out.2, ← hn2'], by simpa using hla⟩
        have hq : (l / 16777216 == h / 16777216) = false := beq_eq_false_iff_ne.2 he
        clear hw hn2' hla he hnn HI HPO
        go_wp2_with fail
        refine (HAL.out _).mono ?_
        rintro e w3 ⟨rfl, hb3⟩
        rw [hq]
        have HS3 : Aside0 (SS w0 gx gr gm T s.c w3 l h a1) := ⟨HS.out.below hb3⟩
        have HLN : Aside0 (Calls Try.prog 14 #[.pointer (some ⟨gm, 0, none⟩), .int .i64 n, .bool b] w3 fun e w' => e = .returned (.bool true) ∧ Blk w' gm 66 (Value.int .i64) (lrn s.c n b) ∧ Ch (fun i => i = gm) w3 w') := ⟨learn_yes gm n s.c b hn1 hn2 HO.out.2.2.2.2 w3 HS3.out.mod⟩
        have c4 : w3.cell? ⟨gx, 4, none⟩ = some (.pointer (some ⟨gm, 0, none⟩)) := HS3.out.box.cell 4 undef (by simp [XB])
        clear hb3 c1 c2 HS
        go_wp2_with fail
        refine HLN.out.mono ?_
        rintro e w4 ⟨rfl, hm4, hc4⟩
        have HM4 := Aside0.mk (And.intro hm4 hc4)
        clear hm4 hc4 c4
        go_wp2
        go_ret
        refine ⟨rfl, ?_, HS3.out.ch.trans (HM4.out.2.mono fun i _ e => Or.inr (Or.inr e))⟩
        rw [HFN.out.1, HFN.out.2.1, ← HFN.out.2.2]
        exact ⟨HS3.out.box.ch HM4.out.2 HS3.out.ne.2.1, HM4.out.2.blk HS3.out.rdr HS3.out.ne.2.2, HM4.out.1, HS3.out.ne⟩
end Go.Proofs.Ytfijbhacobjjgae
