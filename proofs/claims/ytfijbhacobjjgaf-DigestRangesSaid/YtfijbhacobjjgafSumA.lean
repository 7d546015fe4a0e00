/- Taken over from chapter 38's text SumA. -/
import Derived.Test.YtfijbhacobjjgafProg
import Derived.Test.YtfijbhacobjjgafVals
import Derived.Test.YtfijbhacobjjgafWLast
import Derived.Test.YtfijbhacobjjgafWMore
import Derived.RegionTactic
import Derived.ChangeAlike
import Derived.BigRegion
import Derived.WalkLawsBesides
import Derived.WalkSpells
import Derived.Deep.LoopGhost
import Derived.Deep.QuietTactic
import Derived.BigQuiet
import Derived.OwnWalk
import Derived.Test.YtfijbhacobjjgafLaw38
import Derived.Test.YtfijbhacobjjgafNums
import Derived.StillTailTactics
namespace Go.Proofs.Ytfijbhacobjjgaf
open Go.RowKit Go.Proofs.YtfijbhacobjjgafW.PrintWords Go.Proofs.YtfijbhacobjjgafW.PrintLast Go.Proofs.YtfijbhacobjjgafW.PrintMore Go.Proofs.Ytfijbhacobjjgaf.Fr
set_option linter.unusedVariables false
set_option linter.unusedSimpArgs false
attribute [local go_sem] max2_int min2_int max_two min_two
abbrev W64 (x : Int) : Int := IntKind.u64.wrap x
theorem w64_in (x : Int) : 0 ≤ IntKind.u64.wrap x ∧ IntKind.u64.wrap x < 18446744073709551616 := by
  rw [show IntKind.u64.wrap x = x % 18446744073709551616 by simp [IntKind.wrap, IntKind.bits, IntKind.signed]]
  omega
theorem w64_id {x : Int} (h0 : 0 ≤ x) (h : x < 18446744073709551616) : IntKind.u64.wrap x = x := by
  rw [show IntKind.u64.wrap x = x % 18446744073709551616 by simp [IntKind.wrap, IntKind.bits, IntKind.signed]]
  omega
def byteH (h b : Int) : Int := bits .xor .u64 (IntKind.u64.wrap (bits .xor .u64 h b * 11400714819323198485)) (IntKind.u64.wrap (bits .xor .u64 h b * 11400714819323198485) / 536870912)
def endS (s : Int × Int) : Int := bits .xor .u64 (IntKind.u64.wrap (IntKind.u64.wrap (s.1 + s.2) * 13787848793156543929)) (IntKind.u64.wrap (IntKind.u64.wrap (s.1 + s.2) * 13787848793156543929) / 4294967296)
def stepS (s : Int × Int) (b : Int) : Int × Int := (byteH s.1 b, IntKind.u64.wrap (s.2 + 1))
theorem new_any (w : World) : Calls Try.prog 29 #[] w fun e w' => e = .returned (.agg #[.int .u64 7640891576956012808, .int .u64 0]) ∧ Below w.heap.size w w' := by
  go_enter Try.func29, Try.ntmps29
  go_wp2
  exact bodyPost_ret (v := .agg #[.int .u64 7640891576956012808, .int .u64 0]) (by simp [results, Try.results29, go_sem]) rfl ⟨rfl, below_alloc (Below.refl _ _) _⟩
set_option maxRecDepth 100000 in
theorem byte_any (h n b : Int) (w : World) (hb0 : 0 ≤ b) (hb1 : b < 256) : Calls Try.prog 38 #[.agg #[.int .u64 h, .int .u64 n], .int .u8 b] w fun e w' => e = .returned (.agg #[.int .u64 (byteH h b), .int .u64 (IntKind.u64.wrap (n + 1))]) ∧ Below w.heap.size w w' := by
  have E : Aside0 (byteH h b = bits .xor .u64 (IntKind.u64.wrap (bits .xor .u64 h b * 11400714819323198485)) (IntKind.u64.wrap (bits .xor .u64 h b * 11400714819323198485) / 536870912)) := ⟨rfl⟩
  go_enter Try.func38, Try.ntmps38
  go_wp2
  rw [← E.out]
  exact bodyPost_ret (v := .agg #[.int .u64 (byteH h b), .int .u64 (IntKind.u64.wrap (n + 1))]) (by simp [results, Try.results38, go_sem]) rfl ⟨rfl, below_step (below_alloc (Below.refl _ _) _) (below_alloc (Below.refl _ _) _)⟩
set_option maxRecDepth 100000 in
theorem sum_any (h n : Int) (w : World) : Calls Try.prog 31 #[.agg #[.int .u64 h, .int .u64 n]] w fun e w' => e = .returned (.int .u64 (endS (h, n))) ∧ Below w.heap.size w w' := by
  have E : Aside0 (endS (h, n) = bits .xor .u64 (IntKind.u64.wrap (IntKind.u64.wrap (h + n) * 13787848793156543929)) (IntKind.u64.wrap (IntKind.u64.wrap (h + n) * 13787848793156543929) / 4294967296)) := ⟨rfl⟩
  go_enter Try.func31, Try.ntmps31
  go_wp2
  go_ret
  rw [E.out]
  exact ⟨rfl, below_alloc (Below.refl _ _) _⟩
def bgx (T : ByteArray) (i : Nat) : UInt8 := T.data.toList.getD i 0
theorem bgx_get (T : ByteArray) (i : Nat) (h : i < T.size) : T[i] = bgx T i := by
  have h2 : i < T.data.toList.length := by simpa using h
  unfold bgx
  rw [List.getD_eq_getElem?_getD, List.getElem?_eq_getElem h2]
  rfl
def new0 : Int × Int := (7640891576956012808, 0)
def stA (a : ByteArray) (s : Int × Int) : Nat → Int × Int
  | 0 => s
  | k + 1 => stepS (stA a s k) ((bgx a k).toNat : Int)
theorem stA_app (a b : ByteArray) (s : Int × Int) : ∀ k, k ≤ b.size → stA (a ++ b) s (a.size + k) = stA b (stA a s a.size) k
  | 0, _ => by
    have : ∀ j, j ≤ a.size → stA (a ++ b) s j = stA a s j := by
      intro j
      induction j with
      | zero => intro _; rfl
      | succ j ih =>
        intro hj
        have e : bgx (a ++ b) j = bgx a j := by
          unfold bgx
          have hl : j < a.data.toList.length := by rw [data_length]; omega
          simp only [List.getD_eq_getElem?_getD, ByteArray.data_append, Array.toList_append]
          rw [List.getElem?_append_left hl]
        simp only [stA]
        rw [ih (by omega), e]
    exact this a.size (Nat.le_refl _)
  | k + 1, h => by
    have e : bgx (a ++ b) (a.size + k) = bgx b k := by
      unfold bgx
      have hl : a.data.size = a.size := rfl
      simp only [List.getD_eq_getElem?_getD, ByteArray.data_append, Array.toList_append]
      rw [List.getElem?_append_right (by rw [data_length]; omega), data_length, Nat.add_sub_cancel_left]
    show stepS (stA (a ++ b) s (a.size + k)) ((bgx (a ++ b) (a.size + k)).toNat : Int) = stepS (stA b (stA a s a.size) k) ((bgx b k).toNat : Int)
    rw [stA_app a b s k (by omega), e]
theorem stA_count (t : ByteArray) : ∀ k, k ≤ 281474976710656 → (stA t new0 k).2 = (k : Int)
  | 0, _ => rfl
  | k + 1, h => by
    show IntKind.u64.wrap ((stA t new0 k).2 + 1) = _
    rw [stA_count t k (by omega), w64_id (by omega) (by omega)]
    omega
/-- The sum of a text. -/
def S (t : ByteArray) : Int := endS (stA t new0 t.size)
set_option maxRecDepth 100000 in
theorem add_any (s : Int × Int) (t : ByteArray) (w : World) (ht : t.size ≤ 281474976710656) : Calls Try.prog 30 #[.agg #[.int .u64 s.1, .int .u64 s.2], .string t] w fun e w' => e = .returned (.agg #[.int .u64 (stA t s t.size).1, .int .u64 (stA t s t.size).2]) ∧ Below w.heap.size w w' := by
  go_enter Try.func30, Try.ntmps30
  go_wp2
  have HI0 : Aside0 (((w.alloc (.cells #[.int .u64 s.1, .int .u64 s.2] 58)).alloc (.cells #[.int .u64 0, .int .u64 0] 58)).heap[w.heap.size]? = some (.cells #[.int .u64 s.1, .int .u64 s.2] 58 (0, 0)) ∧ ((w.alloc (.cells #[.int .u64 s.1, .int .u64 s.2] 58)).alloc (.cells #[.int .u64 0, .int .u64 0] 58)).heap[w.heap.size + 1]? = some (.cells #[.int .u64 0, .int .u64 0] 58 (0, 0)) ∧ Below w.heap.size w ((w.alloc (.cells #[.int .u64 s.1, .int .u64 s.2] 58)).alloc (.cells #[.int .u64 0, .int .u64 0] 58))) := ⟨blk_below (blk_new w _) (below_alloc (Below.refl _ _) _), by
    have := blk_new (w.alloc (.cells #[.int .u64 s.1, .int .u64 s.2] 58)) (.cells #[.int .u64 0, .int .u64 0] 58)
    simpa using this, below_alloc (below_alloc (Below.refl _ _) _) _⟩
  generalize (w.alloc (.cells #[.int .u64 s.1, .int .u64 s.2] 58)).alloc (.cells #[.int .u64 0, .int .u64 0] 58) = W at HI0 ⊢
  obtain ⟨g, hg⟩ : ∃ g, w.heap.size = g := ⟨_, rfl⟩
  rw [hg] at HI0
  rw [hg]
  obtain ⟨g2, hg2⟩ : ∃ g2, g + 1 = g2 := ⟨_, rfl⟩
  rw [hg2] at HI0
  rw [hg2]
  have HG := Aside0.mk (And.intro hg hg2)
  clear hg hg2
  go_loopg [8] t.size (fun gk y wr => ∃ k : Nat, Aside0 (k + gk = t.size) ∧ y = .int .i64 k ∧ Aside0 (wr.heap[g]? = some (.cells #[.int .u64 (stA t s k).1, .int .u64 (stA t s k).2] 58 (0, 0)) ∧ wr.heap[g2]? = some (.cells #[.int .u64 0, .int .u64 0] 58 (0, 0)) ∧ Below g w wr))
  case atStart => exact ⟨0, ⟨by omega⟩, rfl, HI0⟩
  case round =>
    clear HI0
    obtain ⟨k, HK, rfl, HI⟩ := hrel
    have c0 : wr.cell? ⟨g, 0, none⟩ = some (.int .u64 (stA t s k).1) := (blk_cell HI.out.1 0).trans rfl
    have c1 : wr.cell? ⟨g, 1, none⟩ = some (.int .u64 (stA t s k).2) := (blk_cell HI.out.1 1).trans rfl
    have hne : g2 ≠ g := by have := HG.out; omega
    by_cases hlt : k < t.size
    · have hb := bgx_get t k hlt
      have hst : stA t s (k + 1) = (byteH (stA t s k).1 ((bgx t k).toNat : Int), IntKind.u64.wrap ((stA t s k).2 + 1)) := rfl
      obtain ⟨b, hbb⟩ : ∃ b : UInt8, bgx t k = b := ⟨_, rfl⟩
      rw [hbb] at hb hst
      have hb0 : 0 ≤ (b.toNat : Int) := by omega
      have hb1 : (b.toNat : Int) < 256 := by have := UInt8.toNat_lt b; omega
      obtain ⟨x, hx⟩ : ∃ x, (stA t s k).1 = x := ⟨_, rfl⟩
      obtain ⟨y, hy⟩ : ∃ y, (stA t s k).2 = y := ⟨_, rfl⟩
      rw [hx] at c0 hst
      rw [hy] at c1 hst
      rw [hx, hy] at HI
      have HST := Aside0.mk hst
      have HB := Aside0.mk hb
      have hki : (k : Int) < (t.size : Int) := by omega
      have hk0 : (0 : Int) ≤ (k : Int) := by omega
      clear hst hbb hb hx hy
      go_wp2
      go_still_tail 4, (by kernel_rfl)
      change wpList _ _ _ _ _ wr.drew
      have HI2 : Aside0 (wr.drew.heap[g]? = some (.cells #[.int .u64 x, .int .u64 y] 58 (0, 0)) ∧ wr.drew.heap[g2]? = some (.cells #[.int .u64 0, .int .u64 0] 58 (0, 0)) ∧ Below g w wr.drew) := ⟨HI.out.1, HI.out.2.1, below_drew HI.out.2.2⟩
      clear c0 c1 HI
      generalize wr.drew = V at HI2 ⊢
      go_wp2_with fail
      simp only [HB.out]
      refine (byte_any x y (b.toNat : Int) V hb0 hb1).mono ?_
      rintro e w1 ⟨rfl, hbl⟩
      have HI3 : Aside0 (w1.heap[g]? = some (.cells #[.int .u64 x, .int .u64 y] 58 (0, 0)) ∧ w1.heap[g2]? = some (.cells #[.int .u64 0, .int .u64 0] 58 (0, 0)) ∧ Below g w w1) := ⟨blk_below HI2.out.1 hbl, blk_below HI2.out.2.1 hbl, below_then HI2.out.2.2 (Nat.le_of_lt (blk_lt HI2.out.1)) hbl⟩
      have c0 : w1.cell? ⟨g, 0, none⟩ = some (.int .u64 x) := (blk_cell HI3.out.1 0).trans rfl
      have c1 : w1.cell? ⟨g, 1, none⟩ = some (.int .u64 y) := (blk_cell HI3.out.1 1).trans rfl
      have f0 := blk_frozen HI3.out.1 0
      have f1 := blk_frozen HI3.out.1 1
      go_wp2
      go_roundg (gk - 1)
      case measure => have := HK.out; omega
      case rel =>
        exact ⟨k + 1, ⟨by have := HK.out; omega⟩, by go_num, ⟨by
          rw [HST.out]
          exact blk_put (blk_set HI3.out.1 0 _) 1 _ rfl, blk_far (blk_far HI3.out.2.1 hne _) hne _, (HI3.out.2.2.setCell (Nat.le_refl _) _).setCell (Nat.le_refl _) _⟩⟩
    · have d0 : wr.cell? ⟨g2, 0, none⟩ = some (.int .u64 0) := (blk_cell HI.out.2.1 0).trans rfl
      have d1 : wr.cell? ⟨g2, 1, none⟩ = some (.int .u64 0) := (blk_cell HI.out.2.1 1).trans rfl
      have f0 := blk_frozen HI.out.2.1 0
      have f1 := blk_frozen HI.out.2.1 1
      have hkk : k = t.size := by have := HK.out; omega
      go_wp2
      subst hkk
      refine bodyPost_ret (v := .agg #[.int .u64 (stA t s t.size).1, .int .u64 (stA t s t.size).2]) ?_ rfl ⟨rfl, ?_⟩
      · simp [results, Try.results30, go_sem, d0, d1]
      · have := HG.out
        rw [this.1]
        exact (HI.out.2.2.setCell (by show g ≤ g2; omega) _).setCell (by show g ≤ g2; omega) _
set_option maxRecDepth 100000 in
theorem of_any (t : ByteArray) (w : World) (ht : t.size ≤ 281474976710656) : Calls Try.prog 32 #[.string t] w fun e w' => e = .returned (.int .u64 (S t)) ∧ Below w.heap.size w w' := by
  go_enter Try.func32, Try.ntmps32
  go_wp2_with fail
  refine (new_any _).mono ?_
  rintro e w1 ⟨rfl, hb1⟩
  go_wp2_with fail
  refine (add_any new0 t w1 ht).mono ?_
  rintro e w2 ⟨rfl, hb2⟩
  go_wp2_with fail
  refine (sum_any _ _ w2).mono ?_
  rintro e w3 ⟨rfl, hb3⟩
  go_wp2
  go_ret
  exact ⟨rfl, below_step (below_step hb1 hb2) hb3⟩
def z0 : ByteArray := ⟨#[0]⟩
theorem z0_size : z0.size = 1 := rfl
/-- The sum of a leaf. -/
def lf (s : ByteArray) : Int := S (z0 ++ s)
theorem lf_eq (s : ByteArray) : lf s = endS (stA s (stA z0 new0 1) s.size) := by
  unfold lf S
  rw [ByteArray.size_append]
  exact congrArg endS (stA_app z0 s new0 s.size (Nat.le_refl _))
set_option maxRecDepth 100000 in
theorem leaf_any (t : ByteArray) (w : World) (ht : t.size ≤ 140737488355328) : Calls Try.prog 24 #[.string t] w fun e w' => e = .returned (.int .u64 (lf t)) ∧ Below w.heap.size w w' := by
  have E := Aside0.mk (lf_eq t)
  go_enter Try.func24, Try.ntmps24
  go_wp2_with fail
  refine (new_any _).mono ?_
  rintro e w1 ⟨rfl, hb1⟩
  go_wp2_with fail
  refine (add_any new0 z0 w1 (by decide)).mono ?_
  rintro e w2 ⟨rfl, hb2⟩
  go_wp2_with fail
  refine (add_any (stA z0 new0 1) t w2 (by omega)).mono ?_
  rintro e w3 ⟨rfl, hb3⟩
  go_wp2_with fail
  refine (sum_any _ _ w3).mono ?_
  rintro e w4 ⟨rfl, hb4⟩
  go_wp2
  go_ret
  rw [E.out]
  exact ⟨rfl, below_step (below_step (below_step hb1 hb2) hb3) hb4⟩
set_option maxRecDepth 100000 in
theorem refOf_any (t : ByteArray) (w : World) (ht : t.size ≤ 281474976710656) : Calls Try.prog 26 #[.string t] w fun e w' => e = .returned (.int .u64 (S t)) ∧ w' = w := by
  go_enter Try.func26, Try.ntmps26
  go_wp2
  go_loopg [3, 4] t.size (fun gk x y wr => ∃ k : Nat, Aside0 (k + gk = t.size) ∧ x = .int .u64 (stA t new0 k).1 ∧ y = .int .i64 k ∧ wr = w)
  case atStart => exact ⟨0, ⟨by omega⟩, rfl, rfl, rfl⟩
  case round =>
    obtain ⟨k, HK, rfl, rfl, rfl⟩ := hrel
    by_cases hlt : k < t.size
    · have hb := bgx_get t k hlt
      have hst : (stA t new0 (k + 1)).1 = byteH (stA t new0 k).1 ((bgx t k).toNat : Int) := rfl
      obtain ⟨b, hbb⟩ : ∃ b : UInt8, bgx t k = b := ⟨_, rfl⟩
      rw [hbb] at hb hst
      obtain ⟨x, hx⟩ : ∃ x, (stA t new0 k).1 = x := ⟨_, rfl⟩
      rw [hx] at hst
      rw [hx]
      have HST := Aside0.mk hst
      clear hst hbb hx
      have hb0 : 0 ≤ (b.toNat : Int) := by omega
      have hb1 : (b.toNat : Int) < 256 := by have := UInt8.toNat_lt b; omega
      have hbw : IntKind.u64.wrap (b.toNat : Int) = (b.toNat : Int) := w64_id hb0 (by omega)
      obtain ⟨m, hm⟩ : ∃ m, IntKind.u64.wrap (bits .xor .u64 x (b.toNat : Int) * 11400714819323198485) = m := ⟨_, rfl⟩
      have hm0 : 0 ≤ m ∧ m < 18446744073709551616 := hm ▸ w64_in _
      have hm1 := hm0.1
      have hm2 := hm0.2
      have HM : Aside0 (byteH x (b.toNat : Int) = bits .xor .u64 m (m / 536870912)) := ⟨by unfold byteH; rw [hm]⟩
      clear hm0
      go_wp2
      go_roundg (gk - 1)
      case measure => have := HK.out; omega
      case rel => exact ⟨k + 1, ⟨by have := HK.out; omega⟩, by rw [HST.out, HM.out], by go_num, rfl⟩
    · have hkk : k = t.size := by have := HK.out; omega
      have hs := stA_count t t.size ht
      have HS : Aside0 (S t = endS ((stA t new0 t.size).1, (t.size : Int))) := ⟨by unfold S; rw [← hs]⟩
      rw [hkk] at hlt
      rw [hkk]
      clear hs hkk
      obtain ⟨x, hx⟩ : ∃ x, (stA t new0 t.size).1 = x := ⟨_, rfl⟩
      rw [hx] at HS
      rw [hx]
      clear hx
      have hn0 : (t.size : Int) < 18446744073709551616 := by omega
      have hnw : IntKind.u64.wrap (t.size : Int) = (t.size : Int) := w64_id (by omega) hn0
      obtain ⟨m, hm⟩ : ∃ m, IntKind.u64.wrap (IntKind.u64.wrap (x + (t.size : Int)) * 13787848793156543929) = m := ⟨_, rfl⟩
      have hm0 : 0 ≤ m ∧ m < 18446744073709551616 := hm ▸ w64_in _
      have hm1 := hm0.1
      have hm2 := hm0.2
      have HM : Aside0 (S t = bits .xor .u64 m (m / 4294967296)) := ⟨by rw [HS.out]; unfold endS; rw [hm]⟩
      clear hm0
      go_wp2
      go_ret
      exact ⟨by rw [HM.out]; rfl, rfl⟩
set_option maxRecDepth 100000 in
theorem refLeaf_any (t : ByteArray) (w : World) (ht : t.size ≤ 140737488355328) : Calls Try.prog 21 #[.string t] w fun e w' => e = .returned (.int .u64 (lf t)) ∧ w' = w := by
  have E : Aside0 (z0 ++ t = (⟨#[0]⟩ : ByteArray) ++ t) := ⟨rfl⟩
  go_enter Try.func21, Try.ntmps21
  go_wp2_with fail
  refine (refOf_any (z0 ++ t) w (by rw [ByteArray.size_append, z0_size]; omega)).mono ?_
  rintro e w1 ⟨rfl, rfl⟩
  go_wp2
  go_ret
  exact ⟨rfl, rfl⟩
end Go.Proofs.Ytfijbhacobjjgaf
