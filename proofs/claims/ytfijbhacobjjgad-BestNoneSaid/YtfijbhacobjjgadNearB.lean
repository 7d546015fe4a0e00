/- The least offsets at a place: the document's, and the program's behind a dictionary. -/
import Derived.Test.YtfijbhacobjjgadProg
import Derived.Test.YtfijbhacobjjgadVals
import Derived.Test.YtfijbhacobjjgadWLast
import Derived.Test.YtfijbhacobjjgadWMore
import Derived.RegionTactic
import Derived.ChangeAlike
import Derived.BigRegion
import Derived.WalkLawsBesides
import Derived.WalkSpells
import Derived.Deep.LoopGhost
import Derived.Deep.QuietTactic
import Derived.BigQuiet
import Derived.OwnWalk
import Derived.Test.YtfijbhacobjjgadNearA
namespace Go.Proofs.Ytfijbhacobjjgad
open Go.RowKit Go.Proofs.YtfijbhacobjjgadW.PrintWords Go.Proofs.YtfijbhacobjjgadW.PrintLast Go.Proofs.YtfijbhacobjjgadW.PrintMore Go.Proofs.Ytfijbhacobjjgad.Fr
set_option linter.unusedVariables false
set_option linter.unusedSimpArgs false
attribute [local go_sem] max2_int min2_int max_two min_two

open Pl
/-- What the document has found for n, having looked at the r greatest offsets. -/
def lod (s : Nat → Nat) (n k : Nat) : Nat → Nat
  | 0 => 0
  | r + 1 => if n ≤ s (k - r) then k - r else lod s n k r
theorem lod_spec (s : Nat → Nat) (n k : Nat) : ∀ r, r ≤ k → (lod s n k r = 0 ∧ ∀ o, k - r < o → o ≤ k → ¬ n ≤ s o) ∨ (k - r < lod s n k r ∧ lod s n k r ≤ k ∧ n ≤ s (lod s n k r) ∧ ∀ o, k - r < o → o < lod s n k r → ¬ n ≤ s o)
  | 0, _ => .inl ⟨rfl, fun o h1 h2 => by omega⟩
  | r + 1, h => by
    have ih := lod_spec s n k r (by omega)
    simp only [lod]
    by_cases hc : n ≤ s (k - r)
    · rw [if_pos hc]
      exact .inr ⟨by omega, by omega, hc, fun o h1 h2 => by omega⟩
    · rw [if_neg hc]
      have hx : ∀ o, k - (r + 1) < o → (k - r < o ∨ o = k - r) := fun o h => by omega
      rcases ih with ⟨h1, h2⟩ | ⟨h1, h2, h3, h4⟩
      · refine .inl ⟨h1, fun o ho1 ho2 => ?_⟩
        rcases hx o ho1 with h | rfl
        · exact h2 o h ho2
        · exact hc
      · refine .inr ⟨by omega, h2, h3, fun o ho1 ho2 => ?_⟩
        rcases hx o ho1 with h | rfl
        · exact h4 o h ho2
        · exact hc
theorem lod_lo (s : Nat → Nat) (n k : Nat) : lod s n k k = lo s n k := by
  rcases lod_spec s n k k (Nat.le_refl _) with ⟨h1, h2⟩ | ⟨h1, h2, h3, h4⟩
  · rw [h1]
    by_cases hc : lo s n k = 0
    · exact hc.symm
    · exact absurd (lo_at s n k hc) (h2 _ (by omega) (lo_le s n k))
  · have hm := lo_min s n _ (by omega) h3 k h2
    by_cases e : lo s n k < lod s n k k
    · exact absurd (lo_at s n k hm.1) (h4 _ (by omega) e)
    · omega
def pg (s : Nat → Nat) (k L n v : Nat) : List Int := (List.range (L + 1)).map fun j => ((if j < n then nearF s k j else if j = n then v else 0 : Nat) : Int)
theorem pg_len (s : Nat → Nat) (k L n v : Nat) : (pg s k L n v).length = L + 1 := by simp [pg]
theorem pg_set (s : Nat → Nat) (k L n v v' : Nat) (h : n ≤ L) : (pg s k L n v).set n (v' : Int) = pg s k L n v' := by
  apply List.ext_getElem?
  intro i
  unfold pg
  rw [List.getElem?_set, List.length_map, List.length_range]
  by_cases e : n = i
  · subst e
    rw [if_pos rfl, if_pos (by omega)]
    simp [show n < L + 1 by omega]
  · rw [if_neg e]
    by_cases hi : i < L + 1
    · simp [hi, Ne.symm e]
    · simp [hi]
theorem pg_next (s : Nat → Nat) (k L n : Nat) (h : 3 ≤ n) : pg s k L n (lo s n k) = pg s k L (n + 1) 0 := by
  unfold pg
  apply List.map_congr_left
  intro j _
  by_cases h1 : j < n
  · rw [if_pos h1, if_pos (by omega)]
  · rw [if_neg h1]
    by_cases h2 : j = n
    · subst h2
      rw [if_pos rfl, if_pos (by omega)]
      unfold nearF
      rw [if_neg (by omega)]
    · rw [if_neg h2, if_neg (by omega)]
      split <;> rfl
theorem pg_first (s : Nat → Nat) (k L : Nat) : pg s k L 3 0 = List.replicate (L + 1) 0 := by
  apply List.ext_getElem?
  intro i
  unfold pg
  by_cases hi : i < L + 1
  · simp only [List.getElem?_map, List.getElem?_range hi, List.getElem?_replicate, hi, if_true, Option.map_some]
    unfold nearF
    split
    · rfl
    · split <;> rfl
  · simp [hi]
theorem pg_last (T : ByteArray) (a : Nat) (h : ¬ mxx (so T a) a < 3) : pg (so T a) a (mxx (so T a) a) (mxx (so T a) a + 1) 0 = nl T a a (nlen (so T a) a) := by
  unfold pg nl nlen nearL
  rw [if_neg h, List.map_map]
  apply List.map_congr_left
  intro j hj
  rw [if_pos (List.mem_range.1 hj)]
  rfl
theorem mx_le (T : ByteArray) (a : Nat) (ha : a ≤ T.size) : ∀ k, mxx (so T a) k ≤ T.size := by
  intro k
  induction k with
  | zero => exact Nat.zero_le _
  | succ k ih => have := so_le T a (k + 1) ha; simp only [mxx]; omega
set_option maxRecDepth 100000 in
set_option maxHeartbeats 4000000 in
theorem rnear_any (D X : ByteArray) (i : Nat) (hD : D.size ≤ 1000) (hX : X.size ≤ 1000) (hi : i < X.size) (w0 : World) : Calls Try.prog 13 #[.string D, .string X, .int .i64 i] w0 (NumsPost .i64 3 (nl (D ++ X) (D.size + i) (D.size + i) (nlen (so (D ++ X) (D.size + i)) (D.size + i))) w0) := by
  have hTs : (D ++ X).size = D.size + X.size := ByteArray.size_append ..
  go_enter Try.func13, Try.ntmps13
  go_wp2
  obtain ⟨T, hT⟩ : ∃ T, D ++ X = T := ⟨_, rfl⟩
  obtain ⟨a, ha⟩ : ∃ a, D.size + i = a := ⟨_, rfl⟩
  have hac : (D.size : Int) + (i : Int) = (a : Int) := by omega
  rw [hT] at hTs
  have haT : a ≤ T.size := by omega
  have hT2 : T.size ≤ 2000 := by omega
  have HT := Aside0.mk (And.intro hT ha)
  rw [hT, hac]
  have HS : Aside0 (∀ (o : Nat) (w : World), o ≤ a → Calls Try.prog 20 #[.string T, .int .i64 ((a : Int) - (o : Int)), .int .i64 a] w fun e w' => e = .returned (.int .i64 (so T a o)) ∧ Drawn0 w w') := ⟨fun o w ho => by
    have := rsame_any T ((a - o : Nat) : Int) (a : Int) (by omega) w
    rw [smI_nat T _ _ (by omega) haT, show ((a - o : Nat) : Int) = (a : Int) - (o : Int) by omega] at this
    exact this⟩
  have HML := Aside0.mk (mx_le T a haT)
  clear hT ha hac hTs
  go_loopg [9, 10] a (fun gk x y wr => ∃ k : Nat, Aside0 (k + gk = a) ∧ x = .int .i64 (mxx (so T a) k) ∧ y = .int .i64 ((k : Int) + 1) ∧ Aside0 (Drawn0 w0 wr))
  case atStart => exact ⟨0, ⟨by omega⟩, rfl, rfl, ⟨Drawn0.refl _⟩⟩
  case round =>
    obtain ⟨k, HK, rfl, rfl, HD⟩ := hrel
    by_cases hlt : k < a
    · have hl : (k : Int) + 1 ≤ (a : Int) := by omega
      have HS1 := Aside0.mk (HS.out (k + 1))
      have HM : Aside0 (mxx (so T a) (k + 1) = max (mxx (so T a) k) (so T a (k + 1))) := ⟨rfl⟩
      obtain ⟨y, hy⟩ : ∃ y, mxx (so T a) k = y := ⟨_, rfl⟩
      obtain ⟨z, hz⟩ : ∃ z, so T a (k + 1) = z := ⟨_, rfl⟩
      rw [hz] at HM HS1
      rw [hy] at HM
      rw [hy]
      have HY := Aside0.mk (And.intro hy hz)
      clear hy hz
      have hk1 : ((k + 1 : Nat) : Int) = (k : Int) + 1 := by omega
      go_wp2_with fail
      refine ((hk1 ▸ HS1.out _ (by omega))).mono ?_
      rintro e w1 ⟨rfl, hd⟩
      have HD1 := Aside0.mk (drawn_trans HD.out hd)
      clear hd hk1 HS1
      by_cases hyz : y < z
      · have hyz1 : (y : Int) < (z : Int) := by omega
        go_wp2
        go_roundg (gk - 1)
        case measure => have := HK.out; omega
        case rel => exact ⟨k + 1, ⟨by have := HK.out; omega⟩, by rw [HM.out, Nat.max_eq_right (by omega)], by go_num, HD1⟩
      · have hyz1 : ¬ (y : Int) < (z : Int) := by omega
        go_wp2
        go_roundg (gk - 1)
        case measure => have := HK.out; omega
        case rel => exact ⟨k + 1, ⟨by have := HK.out; omega⟩, by rw [HM.out, Nat.max_eq_left (by omega)], by go_num, HD1⟩
    · obtain rfl : k = a := by have := HK.out; omega
      have hl : ¬ (k : Int) + 1 ≤ (k : Int) := by omega
      by_cases h3 : mxx (so T k) k < 3
      · have HE : Aside0 (nl T k k (nlen (so T k) k) = []) := ⟨by unfold nlen nl nearL; rw [if_pos h3]; rfl⟩
        obtain ⟨y, hy⟩ : ∃ y, mxx (so T k) k = y := ⟨_, rfl⟩
        rw [hy] at h3
        rw [hy]
        clear hy
        have h4 : (y : Int) < 3 := by omega
        go_wp2
        go_ret
        rw [HT.out.1, HT.out.2, HE.out]
        exact ⟨_, rfl, ⟨rfl, .inl ⟨rfl, rfl⟩⟩, drawn_below (Below.refl _ _) HD.out⟩
      · have HE := Aside0.mk (pg_last T k h3)
        have HPF := Aside0.mk (pg_first (so T k) k (mxx (so T k) k))
        have HML1 := HML.out k
        obtain ⟨L, hL⟩ : ∃ L, mxx (so T k) k = L := ⟨_, rfl⟩
        rw [hL] at h3 HE HML1 HPF
        rw [hL]
        clear hL HML
        have h4 : ¬ (L : Int) < 3 := by omega
        have hmk := print_make (P := Try.prog) 29 3 .i64 8 Try.underlying29 info3 (by decide) (L + 1) (by omega)
        rw [show ((L + 1 : Nat) : Int) = (L : Int) + 1 by omega] at hmk
        have HB0 := Aside0.mk (Blk.make wr 3 (Value.int .i64) (L + 1) (0 : Int))
        rw [← HPF.out] at HB0
        have HBE0 : Aside0 (Below w0.heap.size w0 (wr.alloc (.cells (madeCells #[Value.int .i64 0] (L + 1)) 3))) := ⟨below_alloc (drawn_below (Below.refl _ _) HD.out) _⟩
        go_wp2
        have HGE : Aside0 (w0.heap.size ≤ wr.heap.size) := ⟨(drawn_below (Below.refl w0.heap.size w0) HD.out).size⟩
        generalize wr.alloc (.cells (madeCells #[Value.int .i64 0] (L + 1)) 3) = W at HB0 HBE0 ⊢
        obtain ⟨g, hg⟩ : ∃ g, wr.heap.size = g := ⟨_, rfl⟩
        rw [hg] at HB0 HGE
        rw [hg]
        clear hg hmk HPF
        obtain ⟨gk0, rfl⟩ : ∃ g1 : Nat, g1 = gk := ⟨_, rfl⟩
        obtain ⟨wo0, rfl⟩ : ∃ wo : World, wo = wr := ⟨_, rfl⟩
        go_loopg [12] (L + 1 - 3) (fun gk x wr => ∃ n : Nat, Aside0 (n + gk = L + 1 ∧ 3 ≤ n) ∧ x = .int .i64 n ∧ Aside0 (Blk wr g 3 (Value.int .i64) (pg (so T k) k L n 0) ∧ Below w0.heap.size w0 wr))
        case atStart => exact ⟨3, ⟨by omega, by omega⟩, rfl, ⟨HB0.out, HBE0.out⟩⟩
        case round =>
          clear HB0 HBE0
          obtain ⟨n, HN, rfl, HB⟩ := hrel
          by_cases hn : n ≤ L
          · have hn1 : (n : Int) ≤ (L : Int) := by omega
            have HNX : Aside0 (pg (so T k) k L n (lod (so T k) n k k) = pg (so T k) k L (n + 1) 0) := ⟨by rw [lod_lo]; exact pg_next _ _ _ _ HN.out.2⟩
            obtain ⟨gk1, rfl⟩ : ∃ g1 : Nat, g1 = gk := ⟨_, rfl⟩
            obtain ⟨wo, rfl⟩ : ∃ wo : World, wo = wr := ⟨_, rfl⟩
            go_wp2
            go_loopg [13] k (fun gk x wr => ∃ r : Nat, Aside0 (r + gk = k) ∧ x = .int .i64 ((k : Int) - (r : Int)) ∧ Aside0 (Blk wr g 3 (Value.int .i64) (pg (so T k) k L n (lod (so T k) n k r)) ∧ Below w0.heap.size w0 wr))
            case atStart => exact ⟨0, ⟨by omega⟩, by simp, ⟨HB.out.1, HB.out.2⟩⟩
            case round =>
              clear HB
              obtain ⟨r, HR, rfl, HB⟩ := hrel
              by_cases hr : r < k
              · have hr1 : 1 ≤ (k : Int) - (r : Int) := by omega
                have HS1 := Aside0.mk (HS.out (k - r))
                have HLD : Aside0 (lod (so T k) n k (r + 1) = if n ≤ so T k (k - r) then k - r else lod (so T k) n k r) := ⟨rfl⟩
                obtain ⟨z, hz⟩ : ∃ z, so T k (k - r) = z := ⟨_, rfl⟩
                rw [hz] at HS1 HLD
                clear hz
                have hk1 : ((k - r : Nat) : Int) = (k : Int) - (r : Int) := by omega
                go_wp2_with fail
                refine ((hk1 ▸ HS1.out _ (by omega))).mono ?_
                rintro e w1 ⟨rfl, hd⟩
                have HB1 : Aside0 (Blk w1 g 3 (Value.int .i64) (pg (so T k) k L n (lod (so T k) n k r)) ∧ Below w0.heap.size w0 w1) := ⟨HB.out.1.below hd.below, drawn_below HB.out.2 hd⟩
                clear hd HS1
                by_cases hz : n ≤ z
                · have hz1 : (n : Int) ≤ (z : Int) := by omega
                  have c1 := HB1.out.1.cell n 0 (by rw [pg_len]; omega)
                  have f1 := HB1.out.1.free n
                  have hkk : ((k - r : Nat) : Int) = (k : Int) - (r : Int) := hk1
                  clear hk1
                  go_wp2
                  go_roundg (gk - 1)
                  case measure => have := HR.out; omega
                  case rel =>
                    refine ⟨r + 1, ⟨by have := HR.out; omega⟩, by go_num, ⟨?_, HB1.out.2.setCell (by show w0.heap.size ≤ g; exact HGE.out) _⟩⟩
                    rw [HLD.out, if_pos hz, ← pg_set (so T k) k L n (lod (so T k) n k r) (k - r) hn]
                    have := HB1.out.1.put n ((k - r : Nat) : Int)
                    rw [hkk] at this ⊢
                    exact this
                · have hz1 : ¬ (n : Int) ≤ (z : Int) := by omega
                  clear hk1
                  go_wp2
                  go_roundg (gk - 1)
                  case measure => have := HR.out; omega
                  case rel => exact ⟨r + 1, ⟨by have := HR.out; omega⟩, by go_num, ⟨by rw [HLD.out, if_neg hz]; exact HB1.out.1, HB1.out.2⟩⟩
              · obtain rfl : r = k := by have := HR.out; omega
                have hr1 : ¬ 1 ≤ (r : Int) - (r : Int) := by omega
                go_wp2
                go_roundg (gk1 - 1)
                case measure => have := HN.out; omega
                case rel => exact ⟨n + 1, ⟨by have := HN.out; omega, by have := HN.out; omega⟩, by go_num, ⟨by rw [← HNX.out]; exact HB.out.1, HB.out.2⟩⟩
          · obtain rfl : n = L + 1 := by have := HN.out; omega
            have hn1 : ¬ ((L + 1 : Nat) : Int) ≤ (L : Int) := by omega
            go_wp2
            go_ret
            rw [HT.out.1, HT.out.2, ← HE.out]
            have hown := HB.out.1.own HGE.out (by rw [pg_len]; omega)
            exact ⟨_, rfl, by rw [pg_len] at hown ⊢; exact hown, HB.out.2⟩
end Go.Proofs.Ytfijbhacobjjgad
