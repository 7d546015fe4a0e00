/- The contract of Encode: its world. -/
import Derived.Test.YtfijbhacobjjgaeProg
import Derived.Test.YtfijbhacobjjgaeVals
import Derived.Test.YtfijbhacobjjgaeWLast
import Derived.Test.YtfijbhacobjjgaeWMore
import Derived.RegionTactic
import Derived.ChangeAlike
import Derived.BigRegion
import Derived.WalkLawsBesides
import Derived.WalkSpells
import Derived.Deep.LoopGhost
import Derived.Deep.QuietTactic
import Derived.BigQuiet
import Derived.OwnWalk
import Derived.Test.YtfijbhacobjjgaeWriterB
namespace Go.Proofs.Ytfijbhacobjjgae
open Go.RowKit Go.Proofs.YtfijbhacobjjgaeW.PrintWords Go.Proofs.YtfijbhacobjjgaeW.PrintLast Go.Proofs.YtfijbhacobjjgaeW.PrintMore Go.Proofs.Ytfijbhacobjjgae.Fr
set_option linter.unusedVariables false
set_option linter.unusedSimpArgs false
attribute [local go_sem] max2_int min2_int max_two min_two

open Pl
/-- The encoder's world: its own blocks, and what it has put out. -/
structure EW (w0 w : World) (gw gm ge : Nat) (l h : Int) (c : List Int) (xs : List Int) : Prop where
  wr : ∃ v, WR w gw (ge + 1) v xs
  mod : Blk w gm 66 (Value.int .i64) c
  en : Blk w ge 49 (Value.int .u32) [l, h]
  bel : Below w0.heap.size w0 w
  lo : w0.heap.size ≤ gw ∧ gw < gm ∧ gm < ge
section
variable {w0 w w1 : World} {gw gm ge : Nat} {l h l2 h2 : Int} {c c2 xs ys : List Int}
theorem EW.below (x : EW w0 w gw gm ge l h c xs) (hb : Below w.heap.size w w1) : EW w0 w1 gw gm ge l h c xs := ⟨by obtain ⟨v, hv⟩ := x.wr; exact ⟨v, hv.below hb⟩, x.mod.below hb, x.en.below hb, x.bel.trans (hb.mono x.bel.size), x.lo⟩
theorem EW.learn (x : EW w0 w gw gm ge l h c xs) (hm : Blk w1 gm 66 (Value.int .i64) c2) (hc : Ch (fun i => i = gm) w w1) : EW w0 w1 gw gm ge l h c2 xs := ⟨by
    obtain ⟨v, hv⟩ := x.wr
    have := x.lo
    exact ⟨v, hv.ch hc (by omega) (fun k hk => by omega)⟩, hm, x.en.ch hc (by have := x.lo; omega), Ch.onto x.bel hc x.bel.size (fun i e => by have := x.lo; omega), x.lo⟩
theorem EW.ends (x : EW w0 w gw gm ge l h c xs) (he : Blk w1 ge 49 (Value.int .u32) [l2, h2]) (hc : Ch (fun i => i = ge) w w1) : EW w0 w1 gw gm ge l2 h2 c xs := ⟨by
    obtain ⟨v, hv⟩ := x.wr
    have := x.lo
    exact ⟨v, hv.ch hc (by omega) (fun k hk => by omega)⟩, x.mod.ch hc (by have := x.lo; omega), he, Ch.onto x.bel hc x.bel.size (fun i e => by have := x.lo; omega), x.lo⟩
theorem EW.put (x : EW w0 w gw gm ge l h c xs) (hw : ∃ v, WR w1 gw (ge + 1) v ys) (hc : Ch (fun i => i = gw ∨ ge + 1 ≤ i) w w1) : EW w0 w1 gw gm ge l h c ys := ⟨hw, x.mod.ch hc (by have := x.lo; omega), x.en.ch hc (by have := x.lo; omega), Ch.onto x.bel hc x.bel.size (fun i e => by have := x.lo; omega), x.lo⟩
theorem EW.set (x : EW w0 w gw gm ge l h c xs) (l2 h2 : Int) : EW w0 ((w.setCell ⟨ge, 0, none⟩ (.int .u32 l2)).setCell ⟨ge, 1, none⟩ (.int .u32 h2)) gw gm ge l2 h2 c xs := x.ends (by
    have e := (x.en.put 0 l2).put 1 h2
    exact e) (((Ch.refl (fun i => i = ge) w).set (g := ge) rfl).set (g := ge) rfl)
end
theorem bit_of (v k : Nat) (hv : v < 256) : (bits .and .u8 ((v : Int) / 2 ^ k) 1 == 1) = bitAt v k := by
  have e : ((v : Int) / 2 ^ k) = ((v / 2 ^ k : Nat) : Int) := by simp
  have hl : v / 2 ^ k < 256 := Nat.lt_of_le_of_lt (Nat.div_le_self _ _) hv
  rw [e]
  unfold bitAt
  generalize v / 2 ^ k = q at hl
  have e8 : (2 : Int) ^ 8 = 256 := by decide
  have h := bits_mask .u8 8 (by decide) (fun n a b => by rw [IntKind.wrap_u8]; omega) 1 (by decide) (q : Int) (by omega) (by omega)
  have h1 : ((2 : Int) ^ 1 - 1) = 1 := by decide
  rw [h1] at h
  rw [h, Bool.eq_iff_iff, beq_iff_eq, decide_eq_true_eq]
  omega
def nb (T : ByteArray) : List Nat := T.data.toList.map (fun b => b.toNat)
theorem nb_len (T : ByteArray) : (nb T).length = T.size := by simp [nb]
theorem nb_lt (T : ByteArray) : ∀ v ∈ nb T, v < 256 := by
  intro v hv
  obtain ⟨b, _, rfl⟩ := List.mem_map.1 hv
  exact b.toNat_lt
theorem nb_drop (T : ByteArray) (i : Nat) (h : i < T.size) : (nb T).drop i = T[i].toNat :: (nb T).drop (i + 1) := by
  rw [List.drop_eq_getElem_cons (by rw [nb_len]; exact h)]
  congr 1
  simp [nb]
  rfl
set_option maxRecDepth 100000 in
set_option maxHeartbeats 8000000 in
theorem enc_any (T : ByteArray) (hT : T.size ≤ 30000) (w0 : World) : Calls Try.prog 9 #[.string T] w0 fun e w' => e = .returned (.string (strOfNums (code (nb T)))) ∧ Below w0.heap.size w0 w' := by
  have HNW := Aside0.mk new_any
  go_enter Try.func9, Try.ntmps9
  go_wp2_with fail
  refine (HNW.out _).mono ?_
  rintro e w1 ⟨gm, rfl, hgm, hm1, hb1⟩
  have HW1 : Aside0 (w1.heap[w0.heap.size]? = some (.cells #[.slice none 0 0] 56 (0, 0)) ∧ Blk w1 gm 66 (Value.int .i64) c0.c ∧ Below w0.heap.size w0 w1 ∧ w0.heap.size < gm ∧ gm < w1.heap.size) := ⟨blk_below (blk_new w0 _) hb1, hm1, below_then (below_alloc (Below.refl _ _) _) (by simp) hb1, by simp at hgm; omega, hm1.lt⟩
  clear hgm hm1 hb1
  go_wp2
  have HE0 : Aside0 (EW w0 (w1.alloc (.cells #[.int .u32 0, .int .u32 4294967295] 49)) w0.heap.size gm w1.heap.size 0 4294967295 c0.c []) := ⟨by
    obtain ⟨x1, x2, x3, x4, x5⟩ := HW1.out
    have hal : Below w1.heap.size w1 (w1.alloc (.cells #[.int .u32 0, .int .u32 4294967295] 49)) := below_alloc (Below.refl _ _) _
    exact ⟨⟨_, blk_below x1 hal, ⟨rfl, .inl ⟨rfl, rfl⟩⟩, by omega, by simp⟩, x2.below hal, blk_new _ _, below_step x3 hal, Nat.le_refl _, x4, x5⟩⟩
  generalize w1.alloc (.cells #[.int .u32 0, .int .u32 4294967295] 49) = W at HE0 ⊢
  generalize w1.heap.size = ge at HE0 ⊢
  obtain ⟨gw, hgw⟩ : ∃ gw, gw = w0.heap.size := ⟨_, rfl⟩
  rw [← hgw] at HE0 ⊢
  clear HW1 HNW hgw
  obtain ⟨E0, hE0⟩ : ∃ E0, ec (nb T) c0 = E0 := ⟨_, rfl⟩
  obtain ⟨Z0, hZ0⟩ : ∃ Z0, ez (nb T) c0 = Z0 := ⟨_, rfl⟩
  have HCD : Aside0 (code (nb T) = E0 ++ fin Z0.l ∧ OkS Z0) := ⟨by rw [← hE0, ← hZ0]; exact ⟨rfl, (ez_ok (nb T) c0 c0_ok).1⟩⟩
  have hEl : E0.length ≤ 960000 := by
    have := (ez_ok (nb T) c0 c0_ok).2.1
    rw [hE0, nb_len] at this
    omega
  have HIN : Aside0 (0 + T.size = T.size ∧ OkS c0 ∧ [] ++ ec ((nb T).drop 0) c0 = E0 ∧ ez ((nb T).drop 0) c0 = Z0) := ⟨Nat.zero_add _, c0_ok, hE0, hZ0⟩
  clear hE0 hZ0
  go_loopg [6, 7, 8, 9, 15] T.size (fun gk x6 x7 x8 x9 x15 wr => ∃ (i : Nat) (s : Cs) (xs : List Int), x15 = .int .i64 i ∧ Aside0 (i + gk = T.size ∧ OkS s ∧ xs ++ ec ((nb T).drop i) s = E0 ∧ ez ((nb T).drop i) s = Z0) ∧ Aside0 (EW w0 wr gw gm ge s.l s.h s.c xs))
  case atStart => exact ⟨0, c0, [], rfl, HIN, HE0⟩
  case round =>
    clear HE0 HIN
    obtain ⟨i, s, xs, rfl, HI, HW⟩ := hrel
    by_cases hlt : i < T.size
    · obtain ⟨f, rfl⟩ : ∃ f, gk = f + 1 := ⟨gk - 1, by have := HI.out.1; omega⟩
      obtain ⟨v, hv⟩ : ∃ v, T[i].toNat = v := ⟨_, rfl⟩
      have hv8 : v < 256 := by rw [← hv]; exact T[i].toNat_lt
      have HNB : Aside0 ((nb T).drop i = v :: (nb T).drop (i + 1)) := ⟨by rw [← hv]; exact nb_drop T i hlt⟩
      obtain ⟨R, hR⟩ : ∃ R, (nb T).drop (i + 1) = R := ⟨_, rfl⟩
      have HRR := Aside0.mk hR
      have HN0 : Aside0 (0 + 8 = 8 ∧ Nd 0 1 ∧ OkS s ∧ xs ++ (eo 8 v 1 s ++ ec R (es 8 v 1 s)) = E0 ∧ ez R (es 8 v 1 s) = Z0) := ⟨by
        obtain ⟨i1, i2, i3, i4⟩ := HI.out
        rw [HNB.out, hR] at i3 i4
        exact ⟨rfl, nd_one, i2, i3, i4⟩⟩
      have HIF : Aside0 (i + (f + 1) = T.size) := ⟨HI.out.1⟩
      clear hR HNB HI
      go_wp2
      go_loopg [7, 8, 9] 8 (fun gn x7 x8 x9 wr => ∃ (k node : Nat) (kk : Int) (s1 : Cs) (ys : List Int), x7 = .int .i64 node ∧ x8 = .int .i64 kk ∧ Aside0 (kk = (gn : Int) - 1 ∧ k + gn = 8 ∧ Nd k node ∧ OkS s1 ∧ ys ++ (eo gn v node s1 ++ ec R (es gn v node s1)) = E0 ∧ ez R (es gn v node s1) = Z0) ∧ Aside0 (EW w0 wr gw gm ge s1.l s1.h s1.c ys))
      case atStart => exact ⟨0, 1, 7, s, xs, rfl, rfl, ⟨rfl, rfl, HN0.out.2⟩, HW⟩
      case round =>
        clear HN0 HW
        obtain ⟨k, node, kk, s1, ys, rfl, rfl, HI, HW⟩ := hrel
        rcases gk with _ | f1
        · obtain rfl : kk = -1 := by have := HI.out.1; omega
          go_wp2
          go_roundg f
          case measure => omega
          case rel => exact ⟨i + 1, s1, ys, by go_num, ⟨by have := HIF.out; omega, HI.out.2.2.2.1, by rw [HRR.out]; exact HI.out.2.2.2.2.1, by rw [HRR.out]; exact HI.out.2.2.2.2.2⟩, HW⟩
        · obtain rfl : kk = (f1 : Int) := by have := HI.out.1; omega
          have hf8 : f1 < 8 := by have := HI.out.2.1; omega
          have hb0 := bit_of v f1 hv8
          obtain ⟨b, hb⟩ : ∃ b, bitAt v f1 = b := ⟨_, rfl⟩
          rw [hb] at hb0
          have HNX : Aside0 (k + 1 + f1 = 8 ∧ Nd (k + 1) (nx node b) ∧ OkS (put s1 node b) ∧ (ys ++ out s1 node b) ++ (eo f1 v (nx node b) (put s1 node b) ++ ec R (es f1 v (nx node b) (put s1 node b))) = E0 ∧ ez R (es f1 v (nx node b) (put s1 node b)) = Z0) := ⟨by
            obtain ⟨i0, i1, i2, i3, i4, i5⟩ := HI.out
            simp only [eo, es, hb] at i4 i5
            exact ⟨by omega, nd_nx b i2, put_ok i3 (nd_lt i2 (by omega)) b, by rw [List.append_assoc, ← List.append_assoc (out s1 node b)]; exact i4, i5⟩⟩
          have hn1 : 1 ≤ node := Nat.le_trans (Nat.pow_pos (by decide)) HI.out.2.2.1.1
          have hn2 : node < 256 := nd_lt HI.out.2.2.1 (by have := HI.out.2.1; omega)
          have hO := HI.out.2.2.2.1
          have HO := Aside0.mk hO
          have hp := hO.2.2.2.2.2 node hn2
          have hlt : s1.l < s1.h := by
            obtain ⟨x1, x2, x3, x4, x5⟩ := hO
            omega
          have HCH0 : ∀ w : World, Blk w gm 66 (Value.int .i64) s1.c → Calls Try.prog 16 #[.pointer (some ⟨gm, 0, none⟩), .int .i64 node] w fun e w' => e = .returned (.int .i64 (s1.c.getD node 0)) ∧ w' = w := fun w h => chance_yes gm node s1.c hn1 hn2 w h hO.2.2.2.2.1
          have hcl : cl s1 node b = if b then s1.l else mid s1.l s1.h (s1.c.getD node 0) + 1 := rfl
          have hcu : cu s1 node b = if b then mid s1.l s1.h (s1.c.getD node 0) else s1.h := rfl
          obtain ⟨x, hx⟩ : ∃ x, s1.c.getD node 0 = x := ⟨_, rfl⟩
          rw [hx] at hp HCH0 hcl hcu
          have HCH := Aside0.mk HCH0
          have hmm := mid_in hlt hp.1 hp.2
          have HMD0 := middle_any s1.l s1.h x hO.1 hlt hO.2.2.1 hp.1 hp.2
          obtain ⟨m, hm⟩ : ∃ m, mid s1.l s1.h x = m := ⟨_, rfl⟩
          rw [hm] at hcl hcu hmm HMD0
          have HMD := Aside0.mk HMD0
          have HCU : Aside0 (∀ w : World, Calls Try.prog 24 #[.agg #[.int .u32 s1.l, .int .u32 s1.h], .int .u32 m, .bool b] w fun e w' => e = .returned (.agg #[.int .u32 (cl s1 node b), .int .u32 (cu s1 node b)]) ∧ Below w.heap.size w w') := ⟨by
            rw [hcl, hcu]
            exact cut_any s1.l s1.h m b (fun _ => by have := hO.1; have := hO.2.2.1; omega)⟩
          have HWD := Aside0.mk (cut_wd hO hn2 b)
          obtain ⟨l1, hl1⟩ : ∃ l1, cl s1 node b = l1 := ⟨_, rfl⟩
          obtain ⟨h1, hh1⟩ : ∃ h1, cu s1 node b = h1 := ⟨_, rfl⟩
          have HPO : Aside0 (out s1 node b = (norm 4 l1 h1).1 ∧ put s1 node b = ⟨(norm 4 l1 h1).2.1, (norm 4 l1 h1).2.2, lrn s1.c node b⟩) := ⟨by rw [← hl1, ← hh1]; exact ⟨rfl, rfl⟩⟩
          rw [hl1, hh1] at HCU HWD
          clear hO hp hlt hx HCH0 HMD0 hm hcl hcu hmm hl1 hh1 HI hb
          go_wp2
          clear hb0
          refine St.steadyW (n := 9) (by kernel_rfl) ([] :: [] :: [] :: [] :: [(2, 31), (3, 32)] :: [(1, 30), (4, 33)] :: [] :: [(0, 29), (5, 34), (6, 35)] :: [(7, 36)] :: []) (some 29 :: some 30 :: some 31 :: some 32 :: some 33 :: some 34 :: some 35 :: some 36 :: none :: []) (by kernel_rfl) 8 (0 :: 0 :: 0 :: 0 :: 0 :: 0 :: 0 :: 0 :: 1 :: []) (by kernel_rfl) rfl (by decide) ((St.eqT ?c11_0x5) :: (St.eqT ?c11_1x5) :: (St.eqT ?c11_2x5) :: (St.eqT ?c11_3x5) :: (St.eqT ?c11_4x5) :: (St.eqT ?c11_5x5) :: (St.eqT ?c11_6x5) :: (St.eqT ?c11_7x5) :: (St.eqT undef) :: []) rfl (by rfl) (fun w' => Below wr.heap.size wr w') (fun w w' => Below w.heap.size w w') (fun _ _ => True) (fun w' => EW w0 w' gw gm ge l1 h1 s1.c ys) (fun w w' => w = w') ?hst ?h0 ?hB ?hC ?hop ?hend
          case hop =>
            refine ⟨?_, ?_, ?_, ?_, ?_, ?_, ?_, ?_, ?_, trivial⟩
            · intro w hB
              simp only [St.withD]
              have hen := HW.out.en.below hB
              have c0 : w.cell? ⟨ge, 0, none⟩ = some (.int .u32 s1.l) := hen.cell 0 0 (by simp)
              have c1 : w.cell? ⟨ge, 1, none⟩ = some (.int .u32 s1.h) := hen.cell 1 0 (by simp)
              refine St.ob_value (v := ?_) (w' := w) (by rfl) ?_ ⟨Below.refl _ _, ?_⟩
              rotate_left
              · go_simp
                with_reducible rfl
              · rfl
            · intro w hB
              simp only [St.withD]
              have hen := HW.out.en.below hB
              have c0 : w.cell? ⟨ge, 0, none⟩ = some (.int .u32 s1.l) := hen.cell 0 0 (by simp)
              have c1 : w.cell? ⟨ge, 1, none⟩ = some (.int .u32 s1.h) := hen.cell 1 0 (by simp)
              refine St.ob_value (v := ?_) (w' := w) (by rfl) ?_ ⟨Below.refl _ _, ?_⟩
              rotate_left
              · go_simp
                with_reducible rfl
              · rfl
            · intro w hB
              simp only [St.withD]
              refine St.ob_value (v := ?_) (w' := w) (by rfl) ?_ ⟨Below.refl _ _, ?_⟩
              rotate_left
              · go_simp
                with_reducible rfl
              · rfl
            · intro w hB
              simp only [St.withD]
              refine St.ob_value (v := ?_) (w' := w) (by rfl) ?_ ⟨Below.refl _ _, ?_⟩
              rotate_left
              · go_simp
                with_reducible rfl
              · rfl
            · intro w hB; rintro _ ⟨_, rfl⟩ _ ⟨_, rfl⟩
              simp only [St.withD, List.nil_append, List.cons_append, Act.put, List.setIfInBounds_toArray, List.set_cons_zero, List.set_cons_succ]
              refine St.ob_call Try.func16 (by kernel_rfl) rfl #[.pointer (some ⟨gm, 0, none⟩), .int .i64 node] (by rfl) rfl (by (try simp only [List.map_toArray, List.map_cons, List.map_nil]); first | done | rfl | (simp only [List.length_drop, List.length_take]; rfl)) ?_
              refine (HCH.out w (HW.out.mod.below hB)).mono ?_
              rintro e w1 ⟨rfl, rfl⟩
              refine ⟨_, rfl, Below.refl _ _, ?_⟩
              rfl
            · intro w hB; rintro _ ⟨_, rfl⟩ _ ⟨_, rfl⟩
              simp only [St.withD, List.nil_append, List.cons_append, Act.put, List.setIfInBounds_toArray, List.set_cons_zero, List.set_cons_succ]
              refine St.ob_call Try.func25 (by kernel_rfl) rfl #[.agg #[.int .u32 s1.l, .int .u32 s1.h], .int .i64 x] (by rfl) rfl (by (try simp only [List.map_toArray, List.map_cons, List.map_nil]); first | done | rfl | (simp only [List.length_drop, List.length_take]; rfl)) ?_
              refine (HMD.out w).mono ?_
              rintro e w1 ⟨rfl, hb1⟩
              refine ⟨_, rfl, hb1, ?_⟩
              rfl
            · intro w hB
              simp only [St.withD]
              refine St.ob_value (v := ?_) (w' := w) (by rfl) ?_ ⟨Below.refl _ _, ?_⟩
              rotate_left
              · go_simp
                with_reducible rfl
              · rfl
            · intro w hB; rintro _ ⟨_, rfl⟩ _ ⟨_, rfl⟩ _ ⟨_, rfl⟩
              simp only [St.withD, List.nil_append, List.cons_append, Act.put, List.setIfInBounds_toArray, List.set_cons_zero, List.set_cons_succ]
              refine St.ob_call Try.func24 (by kernel_rfl) rfl #[.agg #[.int .u32 s1.l, .int .u32 s1.h], .int .u32 m, .bool b] (by rfl) rfl (by (try simp only [List.map_toArray, List.map_cons, List.map_nil]); first | done | rfl | (simp only [List.length_drop, List.length_take]; rfl)) ?_
              refine (HCU.out w).mono ?_
              rintro e w1 ⟨rfl, hb1⟩
              refine ⟨_, rfl, hb1, ?_⟩
              rfl
            · intro w hB; rintro _ ⟨_, rfl⟩
              simp only [St.withD, List.nil_append, List.cons_append, Act.put, List.setIfInBounds_toArray, List.set_cons_zero, List.set_cons_succ]
              have hew := HW.out.below hB
              have c0 : w.cell? ⟨ge, 0, none⟩ = some (.int .u32 s1.l) := hew.en.cell 0 0 (by simp)
              have c1 : w.cell? ⟨ge, 1, none⟩ = some (.int .u32 s1.h) := hew.en.cell 1 0 (by simp)
              have f1 := hew.en.free
              refine St.ob_skip (w' := (w.setCell ⟨ge, 0, none⟩ (.int .u32 l1)).setCell ⟨ge, 1, none⟩ (.int .u32 h1)) (by rfl) ?_ ⟨⟨trivial, hew.set l1 h1⟩, rfl⟩
              go_simp
          case hst => exact ⟨St.eqT_st, St.eqT_st, St.eqT_st, St.eqT_st, St.eqT_st, St.eqT_st, St.eqT_st, St.eqT_st, St.eqT_st, trivial⟩
          case h0 => exact below_drew1 (Below.refl _ _)
          case hB => exact fun w w' h k => below_step h k
          case hC => (intro w w' h e; subst e; exact h)
          case hend =>
            intro w hB
            rintro _ rfl _ rfl _ rfl _ rfl _ rfl _ rfl _ rfl _ rfl _ rfl
            simp only [List.map_cons, List.map_nil, List.nil_append, List.cons_append, List.getD_cons_zero, List.getD_cons_succ, Act.put, List.setIfInBounds_toArray, List.set_cons_zero, List.set_cons_succ]
            rw [St.withE_nil]
            have HS := Aside0.mk hB
            clear hB HCU HMD HCH HW
            go_wp2
            go_loopg [] 4 (fun gk wr => ∃ (l h : Int) (zs : List Int), Aside0 (Wd gk l h ∧ (norm gk l h).2 = (norm 4 l1 h1).2 ∧ zs ++ (norm gk l h).1 = ys ++ (norm 4 l1 h1).1) ∧ Aside0 (EW w0 wr gw gm ge l h s1.c zs))
            case atStart => exact ⟨l1, h1, ys, ⟨HWD.out, rfl, rfl⟩, HS⟩
            case round =>
              clear HS HWD
              obtain ⟨l, h, zs, HI, HS⟩ := hrel
              obtain ⟨hw, hn2', hla⟩ := HI.out
              have hzl : zs.length ≤ 960000 := by
                have e2 := HNX.out.2.2.2.1
                rw [HPO.out.1, ← hla] at e2
                have := congrArg List.length e2
                simp only [List.length_append] at this
                omega
              have HAL : Aside0 (∀ w : World, Calls Try.prog 26 #[.agg #[.int .u32 l, .int .u32 h]] w fun e w' => e = .returned (.bool (l / 16777216 == h / 16777216)) ∧ Below w.heap.size w w') := ⟨fun w => alike_any l h w⟩
              have c0 : wr.cell? ⟨ge, 0, none⟩ = some (.int .u32 l) := HS.out.en.cell 0 0 (by simp)
              have c1 : wr.cell? ⟨ge, 1, none⟩ = some (.int .u32 h) := HS.out.en.cell 1 0 (by simp)
              by_cases he : l / 16777216 = h / 16777216
              · obtain ⟨f2, rfl⟩ : ∃ f2, gk = f2 + 1 := ⟨gk - 1, by
                  rcases Nat.eq_zero_or_pos gk with e | e
                  · subst e; exact absurd he (wd_zero hw)
                  · omega⟩
                have hwm := wd_moved hw he
                have hnn : norm (f2 + 1) l h = (l / 16777216 :: (norm f2 (l % 16777216 * 256) (h % 16777216 * 256 + 255)).1, (norm f2 (l % 16777216 * 256) (h % 16777216 * 256 + 255)).2) := by
                  show (if _ then _ else _) = _
                  rw [if_pos he]
                rw [hnn] at hn2' hla
                obtain ⟨q, hq0⟩ : ∃ q, l / 16777216 = q := ⟨_, rfl⟩
                have hq8 : 0 ≤ q ∧ q < 256 := by have := hw.1; have := hw.2.1; have := hw.2.2.1; omega
                have HNM : Aside0 (Wd f2 (l % 16777216 * 256) (h % 16777216 * 256 + 255) ∧ (norm f2 (l % 16777216 * 256) (h % 16777216 * 256 + 255)).2 = (norm 4 l1 h1).2 ∧ (zs ++ [q]) ++ (norm f2 (l % 16777216 * 256) (h % 16777216 * 256 + 255)).1 = ys ++ (norm 4 l1 h1).1) := ⟨hwm, hn2', by rw [← hq0, List.append_assoc]; exact hla⟩
                have HMV : Aside0 (∀ w : World, Calls Try.prog 27 #[.agg #[.int .u32 l, .int .u32 h]] w fun e w' => e = .returned (.agg #[.int .u32 (l % 16777216 * 256), .int .u32 (h % 16777216 * 256 + 255)]) ∧ Below w.heap.size w w') := ⟨moved_any l h hw.1 (by have := hw.2.1; have := hw.2.2.1; omega) (by have := hw.1; have := hw.2.1; omega) hw.2.2.1⟩
                have hqq : (l / 16777216 == h / 16777216) = true := beq_iff_eq.2 he
                have HPU : Aside0 (∀ w : World, (∃ v, WR w gw (ge + 1) v zs) → Calls Try.prog 28 #[.pointer (some ⟨gw, 0, none⟩), .int .u64 q, .int .i64 1] w (WPost gw (ge + 1) (zs ++ [q]) w)) := ⟨fun w hv => by
                  obtain ⟨v, hv⟩ := hv
                  have := put_one gw (ge + 1) v zs q hq8.1 (by omega) w hv (by omega)
                  rwa [Int.emod_eq_of_lt hq8.1 hq8.2] at this⟩
                obtain ⟨l2, hl2⟩ : ∃ l2, l % 16777216 * 256 = l2 := ⟨_, rfl⟩
                obtain ⟨h2, hh2⟩ : ∃ h2, h % 16777216 * 256 + 255 = h2 := ⟨_, rfl⟩
                rw [hl2, hh2] at HNM HMV
                have hl0 : 0 ≤ l := hw.1
                have hl1 : l < 4294967296 := by have := hw.2.1; have := hw.2.2.1; omega
                have hqa := hq8.1
                have hqb := hq8.2
                clear hw hn2' hla he hwm hnn HI hl2 hh2 hq8
                go_wp2_with fail
                refine (HAL.out _).mono ?_
                rintro e w3 ⟨rfl, hb3⟩
                rw [hqq]
                have HS3 : Aside0 (EW w0 w3 gw gm ge l h s1.c zs) := ⟨HS.out.below hb3⟩
                have c0 : w3.cell? ⟨ge, 0, none⟩ = some (.int .u32 l) := HS3.out.en.cell 0 0 (by simp)
                clear hb3 c1 HS hqq
                go_wp2_with fail
                refine (HPU.out _ HS3.out.wr).mono ?_
                rintro e w4 ⟨rfl, hv4, hc4⟩
                have HS4 : Aside0 (EW w0 w4 gw gm ge l h s1.c (zs ++ [q])) := ⟨HS3.out.put hv4 hc4⟩
                have c0 : w4.cell? ⟨ge, 0, none⟩ = some (.int .u32 l) := HS4.out.en.cell 0 0 (by simp)
                have c1 : w4.cell? ⟨ge, 1, none⟩ = some (.int .u32 h) := HS4.out.en.cell 1 0 (by simp)
                clear hv4 hc4 HS3 HPU
                go_wp2_with fail
                refine (HMV.out _).mono ?_
                rintro e w5 ⟨rfl, hb5⟩
                have HS5 : Aside0 (EW w0 w5 gw gm ge l h s1.c (zs ++ [q])) := ⟨HS4.out.below hb5⟩
                have f1 := HS5.out.en.free
                have k0 : w5.cell? ⟨ge, 0, none⟩ = some (.int .u32 l) := HS5.out.en.cell 0 0 (by simp)
                have k1 : w5.cell? ⟨ge, 1, none⟩ = some (.int .u32 h) := HS5.out.en.cell 1 0 (by simp)
                clear hb5 c0 c1 HS4
                go_wp2
                go_roundg f2
                case measure => omega
                case rel => exact ⟨l2, h2, zs ++ [q], HNM, ⟨HS5.out.set l2 h2⟩⟩
              · have hnn : norm gk l h = ([], l, h) := by
                  cases gk with
                  | zero => rfl
                  | succ f2 =>
                    show (if _ then _ else _) = _
                    rw [if_neg he]
                rw [hnn] at hn2' hla
                have HFN : Aside0 (zs = ys ++ out s1 node b ∧ put s1 node b = ⟨l, h, lrn s1.c node b⟩) := ⟨by rw [HPO.out.1, ← hla, List.append_nil], by rw [HPO.out.2, ← hn2']⟩
                have hq : (l / 16777216 == h / 16777216) = false := beq_eq_false_iff_ne.2 he
                have HLN : Aside0 (∀ w : World, Blk w gm 66 (Value.int .i64) s1.c → Calls Try.prog 14 #[.pointer (some ⟨gm, 0, none⟩), .int .i64 node, .bool b] w fun e w' => e = .returned (.bool true) ∧ Blk w' gm 66 (Value.int .i64) (lrn s1.c node b) ∧ Ch (fun i => i = gm) w w') := ⟨fun w hm => learn_yes gm node s1.c b hn1 hn2 HO.out.2.2.2.2 w hm⟩
                have HNT : Aside0 (∀ w : World, Calls Try.prog 20 #[.int .i64 node, .bool b] w fun e w' => e = .returned (.int .i64 (nx node b : Nat)) ∧ w' = w) := ⟨next_any node b (by omega)⟩
                obtain ⟨nd2, hnd2⟩ : ∃ nd2, nx node b = nd2 := ⟨_, rfl⟩
                rw [hnd2] at HNX HNT
                clear hw hn2' hla he hnn HI HPO hnd2
                go_wp2_with fail
                refine (HAL.out _).mono ?_
                rintro e w3 ⟨rfl, hb3⟩
                rw [hq]
                have HS3 : Aside0 (EW w0 w3 gw gm ge l h s1.c zs) := ⟨HS.out.below hb3⟩
                clear hb3 c0 c1 HS hq
                go_wp2_with fail
                refine (HLN.out _ HS3.out.mod).mono ?_
                rintro e w4 ⟨rfl, hm4, hc4⟩
                have HS4 : Aside0 (EW w0 w4 gw gm ge l h (lrn s1.c node b) zs) := ⟨HS3.out.learn hm4 hc4⟩
                clear hm4 hc4 HS3
                go_wp2_with fail
                refine (HNT.out w4).mono ?_
                rintro e w5 ⟨rfl, rfl⟩
                go_wp2
                go_roundg f1
                case measure => omega
                case rel =>
                  obtain ⟨n1, n2, n3, n4, n5⟩ := HNX.out
                  obtain ⟨r1, r2⟩ := HFN.out
                  rw [r2] at n3 n4 n5
                  exact ⟨k + 1, nd2, (f1 : Int) - 1, ⟨l, h, lrn s1.c node b⟩, zs, rfl, rfl, ⟨rfl, n1, n2, n3, by rw [r1]; exact n4, n5⟩, HS4⟩
    · have hge : T.size ≤ i := by omega
      have hi : i = T.size := by have := HI.out.1; omega
      subst hi
      have HZ : Aside0 (gk = 0 ∧ s = Z0 ∧ xs = E0) := ⟨by
        obtain ⟨i1, i2, i3, i4⟩ := HI.out
        rw [List.drop_eq_nil_of_le (by rw [nb_len]; exact Nat.le_refl _)] at i3 i4
        exact ⟨by omega, i4, by rw [← i3]; exact (List.append_nil _).symm⟩⟩
      have HW0 : Aside0 (EW w0 wr gw gm ge Z0.l Z0.h Z0.c (E0 ++ [])) := ⟨by
        obtain ⟨z1, z2, z3⟩ := HZ.out
        rw [← z2, ← z3, List.append_nil]
        exact HW.out⟩
      obtain ⟨ll, hll⟩ : ∃ ll, Z0.l = ll := ⟨_, rfl⟩
      have hl0 : 0 ≤ ll := by rw [← hll]; exact HCD.out.2.1
      have hl1 : ll < 4294967296 := by
        have h1 := HCD.out.2.2.1
        have h2 := HCD.out.2.2.2.1
        omega
      have HCE : Aside0 (code (nb T) = E0 ++ fin ll) := ⟨by rw [← hll]; exact HCD.out.1⟩
      rw [hll] at HW0
      have HPU : Aside0 (∀ (a : Int) (zs : List Int) (w : World), 0 ≤ a → a < 4294967296 → zs.length ≤ 4 → (∃ v, WR w gw (ge + 1) v (E0 ++ zs)) → Calls Try.prog 28 #[.pointer (some ⟨gw, 0, none⟩), .int .u64 a, .int .i64 1] w (WPost gw (ge + 1) (E0 ++ (zs ++ [a % 256])) w)) := ⟨fun a zs w h0 h1 hz hv => by
        obtain ⟨v, hv⟩ := hv
        rw [← List.append_assoc]
        exact put_one gw (ge + 1) v _ a h0 (by omega) w hv (by rw [List.length_append]; omega)⟩
      clear hll HI HW HZ HCD
      go_wp2
      go_loopg [10] 4 (fun gj x wr => ∃ (kk : Int) (zs : List Int), x = .int .i64 kk ∧ Aside0 (kk = (gj : Int) - 1 ∧ ((gj = 4 ∧ zs = []) ∨ (gj = 3 ∧ zs = [ll / 16777216 % 256]) ∨ (gj = 2 ∧ zs = [ll / 16777216 % 256, ll / 65536 % 256]) ∨ (gj = 1 ∧ zs = [ll / 16777216 % 256, ll / 65536 % 256, ll / 256 % 256]) ∨ (gj = 0 ∧ zs = fin ll))) ∧ Aside0 (EW w0 wr gw gm ge ll Z0.h Z0.c (E0 ++ zs)))
      case atStart => exact ⟨3, [], rfl, ⟨rfl, Or.inl ⟨rfl, rfl⟩⟩, HW0⟩
      case round =>
        clear HW0
        obtain ⟨kk, zs, rfl, HI, HW⟩ := hrel
        obtain ⟨hkk, hd⟩ := HI.out
        clear HI
        rcases hd with ⟨rfl, rfl⟩ | ⟨rfl, rfl⟩ | ⟨rfl, rfl⟩ | ⟨rfl, rfl⟩ | ⟨rfl, rfl⟩
        · obtain rfl : kk = 3 := by omega
          clear hkk
          have c0 : wr.cell? ⟨ge, 0, none⟩ = some (.int .u32 ll) := HW.out.en.cell 0 0 (by simp)
          go_wp2_with fail
          refine (HPU.out (ll / 16777216) _ _ (by omega) (by omega) (by simp) HW.out.wr).mono ?_
          rintro e w4 ⟨rfl, hv4, hc4⟩
          have HW4 := Aside0.mk (HW.out.put hv4 hc4)
          clear hv4 hc4 c0 HW
          go_wp2
          go_roundg 3
          case measure => omega
          case rel => exact ⟨2, _, rfl, ⟨rfl, Or.inr (Or.inl ⟨rfl, rfl⟩)⟩, HW4⟩
        · obtain rfl : kk = 2 := by omega
          clear hkk
          have c0 : wr.cell? ⟨ge, 0, none⟩ = some (.int .u32 ll) := HW.out.en.cell 0 0 (by simp)
          go_wp2_with fail
          refine (HPU.out (ll / 65536) _ _ (by omega) (by omega) (by simp) HW.out.wr).mono ?_
          rintro e w4 ⟨rfl, hv4, hc4⟩
          have HW4 := Aside0.mk (HW.out.put hv4 hc4)
          clear hv4 hc4 c0 HW
          go_wp2
          go_roundg 2
          case measure => omega
          case rel => exact ⟨1, _, rfl, ⟨rfl, Or.inr (Or.inr (Or.inl ⟨rfl, rfl⟩))⟩, HW4⟩
        · obtain rfl : kk = 1 := by omega
          clear hkk
          have c0 : wr.cell? ⟨ge, 0, none⟩ = some (.int .u32 ll) := HW.out.en.cell 0 0 (by simp)
          go_wp2_with fail
          refine (HPU.out (ll / 256) _ _ (by omega) (by omega) (by simp) HW.out.wr).mono ?_
          rintro e w4 ⟨rfl, hv4, hc4⟩
          have HW4 := Aside0.mk (HW.out.put hv4 hc4)
          clear hv4 hc4 c0 HW
          go_wp2
          go_roundg 1
          case measure => omega
          case rel => exact ⟨0, _, rfl, ⟨rfl, Or.inr (Or.inr (Or.inr (Or.inl ⟨rfl, rfl⟩)))⟩, HW4⟩
        · obtain rfl : kk = 0 := by omega
          clear hkk
          have c0 : wr.cell? ⟨ge, 0, none⟩ = some (.int .u32 ll) := HW.out.en.cell 0 0 (by simp)
          go_wp2_with fail
          refine (HPU.out (ll) _ _ (by omega) (by omega) (by simp) HW.out.wr).mono ?_
          rintro e w4 ⟨rfl, hv4, hc4⟩
          have HW4 := Aside0.mk (HW.out.put hv4 hc4)
          clear hv4 hc4 c0 HW
          go_wp2
          go_roundg 0
          case measure => omega
          case rel => exact ⟨-1, _, rfl, ⟨rfl, Or.inr (Or.inr (Or.inr (Or.inr ⟨rfl, by simp only [fin, List.nil_append, List.cons_append, List.cons.injEq, and_true]; omega⟩)))⟩, HW4⟩
        · obtain rfl : kk = -1 := by omega
          clear hkk
          have HST : Aside0 (Calls Try.prog 29 #[.pointer (some ⟨gw, 0, none⟩)] wr fun e w' => e = .returned (.string (strOfNums (E0 ++ fin ll))) ∧ w' = wr) := ⟨by
            obtain ⟨v, hv⟩ := HW.out.wr
            exact string_any gw _ v _ wr hv⟩
          go_wp2_with fail
          refine HST.out.mono ?_
          rintro e w4 ⟨rfl, rfl⟩
          go_wp2
          go_ret
          rw [HCE.out]
          exact ⟨rfl, HW.out.bel⟩
end Go.Proofs.Ytfijbhacobjjgae
