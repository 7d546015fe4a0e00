/- The contract of Unlike. -/
import Derived.Test.YtfijbhacobjjgafProg
import Derived.Test.YtfijbhacobjjgafVals
import Derived.Test.YtfijbhacobjjgafWLast
import Derived.Test.YtfijbhacobjjgafWMore
import Derived.RegionTactic
import Derived.ChangeAlike
import Derived.BigRegion
import Derived.WalkLawsBesides
import Derived.WalkSpells
import Derived.Deep.LoopGhost
import Derived.Deep.QuietTactic
import Derived.BigQuiet
import Derived.OwnWalk
import Derived.Test.YtfijbhacobjjgafCutA
namespace Go.Proofs.Ytfijbhacobjjgaf
open Go.RowKit Go.Proofs.YtfijbhacobjjgafW.PrintWords Go.Proofs.YtfijbhacobjjgafW.PrintLast Go.Proofs.YtfijbhacobjjgafW.PrintMore Go.Proofs.Ytfijbhacobjjgaf.Fr
set_option linter.unusedVariables false
set_option linter.unusedSimpArgs false
attribute [local go_sem] max2_int min2_int max_two min_two

open Pl
/-- Is a range of another list the same? -/
def smR (m l : List ByteArray) (p : Nat × Nat) : Bool := decide (p.2 ≤ m.length ∧ rt m p = rt l p)
def unl (m l : List ByteArray) : Nat → List (Nat × Nat) → List Int
  | _, [] => []
  | i, p :: r => if smR m l p then unl m l (i + 1) r else (i : Int) :: unl m l (i + 1) r
theorem unl_len (m l : List ByteArray) : ∀ (o : List (Nat × Nat)) (i : Nat), (unl m l i o).length ≤ o.length
  | [], i => Nat.le_refl _
  | p :: r, i => by
    unfold unl
    have := unl_len m l r (i + 1)
    split
    · simp; omega
    · simp; omega
theorem unl_drop (m l : List ByteArray) (o : List (Nat × Nat)) (i : Nat) (h : i < o.length) : unl m l i (o.drop i) = if smR m l (o.getD i (0, 0)) then unl m l (i + 1) (o.drop (i + 1)) else (i : Int) :: unl m l (i + 1) (o.drop (i + 1)) := by
  rw [List.drop_eq_getElem_cons h]
  have e : o.getD i (0, 0) = o[i] := by rw [List.getD_eq_getElem?_getD, List.getElem?_eq_getElem h]; rfl
  rw [e]
  rfl
theorem unl_same (l : List ByteArray) : ∀ (o : List (Nat × Nat)) (i : Nat), (∀ p ∈ o, p.2 ≤ l.length) → unl l l i o = []
  | [], _, _ => rfl
  | p :: r, i, h => by
    unfold unl
    rw [if_pos (show smR l l p = true from decide_eq_true ⟨h p (List.mem_cons_self ..), rfl⟩)]
    exact unl_same l r (i + 1) (fun q hq => h q (List.mem_cons_of_mem _ hq))
theorem cts_in (n wn : Nat) (hw : 1 ≤ wn) : ∀ f x, ∀ p ∈ cts n wn f x, p.1 ≤ p.2 ∧ p.2 ≤ n
  | 0, x, p, h => by cases h
  | f + 1, x, p, h => by
    unfold cts at h
    split at h
    · rcases List.mem_cons.1 h with rfl | h
      · exact ⟨Nat.le_add_right _ _, by show x + min wn (n - x) ≤ n; omega⟩
      · exact cts_in n wn hw f _ p h
    · cases h
def UnPost (xs : List Int) (w : World) (e : Ending) (w' : World) : Prop := ∃ v, e = .returned v ∧ w'.ownsRow w.heap.size 3 1 v xs.length (nums .i64 xs) ∧ Below w.heap.size w w'
set_option maxRecDepth 100000 in
set_option maxHeartbeats 1000000 in
theorem unlike_any (l m : List ByteArray) (o : List (Nat × Nat)) (hop : ∀ p ∈ o, p.1 ≤ p.2 ∧ p.2 ≤ 60) (hol : o.length ≤ 60) (A : Option Addr) (n c : Nat) (v : Value) (B : Nat) (w0 : World) (hL : LS w0 A n c m) (hO : RR l B w0 v o) : Calls Try.prog 17 #[.slice A n c, v] w0 (UnPost (unl m l 0 o) w0) := by
  obtain ⟨A2, c2, rfl, hc2, hcm, hcell⟩ := hO.shape
  have hn := hL.le
  have HL := Aside0.mk hL
  have HO := Aside0.mk hO
  have HOP := Aside0.mk hop
  obtain ⟨RES, hRES⟩ : ∃ RES, unl m l 0 o = RES := ⟨_, rfl⟩
  have HI0 : Aside0 (0 + o.length = o.length ∧ [] ++ unl m l 0 (o.drop 0) = RES ∧ ([] : List Int).length ≤ 0) := ⟨Nat.zero_add _, hRES, Nat.le_refl _⟩
  rw [hRES]
  obtain ⟨k, hk⟩ : ∃ k, o.length = k := ⟨_, rfl⟩
  have HK := Aside0.mk hk
  rw [hk] at HI0 hol hc2 ⊢
  have HC := Aside0.mk hcell
  clear hL hO hop hRES hk hcell
  go_enter Try.func17, Try.ntmps17
  go_wp2
  go_loopg [5, 12] k (fun gk x5 x12 wr => ∃ (i : Nat) (xs : List Int), x12 = .int .i64 i ∧ Aside0 (i + gk = k ∧ xs ++ unl m l i (o.drop i) = RES ∧ xs.length ≤ i) ∧ Aside0 (wr.ownsRow w0.heap.size 3 1 x5 xs.length (nums .i64 xs) ∧ Below w0.heap.size w0 wr))
  case atStart => exact ⟨0, [], rfl, HI0, ⟨⟨rfl, .inl ⟨rfl, rfl⟩⟩, Below.refl _ _⟩⟩
  case round =>
    clear HI0
    obtain ⟨i, xs, rfl, HI, HP⟩ := hrel
    by_cases hlt : i < k
    · have hio : i < o.length := by have := HK.out; omega
      obtain ⟨g, rfl, hg, hgl, a0, a1, a2⟩ := HC.out i hio
      obtain ⟨p, hp⟩ : ∃ p, o.getD i (0, 0) = p := ⟨_, rfl⟩
      have hpm : p ∈ o := by rw [← hp, List.getD_eq_getElem?_getD, List.getElem?_eq_getElem hio]; exact List.getElem_mem _
      obtain ⟨hp1, hp2⟩ := HOP.out p hpm
      have HUD := Aside0.mk (unl_drop m l o i hio)
      rw [hp] at a0 a1 a2 HUD
      have b0 : wr.cell? ⟨g, i * 3, none⟩ = some (.int .i64 (p.1 : Int)) := (HP.out.2.cell (p := ⟨g, i * 3, none⟩) hgl).trans a0
      have b1 : wr.cell? ⟨g, i * 3 + 1, none⟩ = some (.int .i64 (p.2 : Int)) := (HP.out.2.cell (p := ⟨g, i * 3 + 1, none⟩) hgl).trans a1
      have b2 : wr.cell? ⟨g, i * 3 + 2, none⟩ = some (.int .u64 (rt l p)) := (HP.out.2.cell (p := ⟨g, i * 3 + 2, none⟩) hgl).trans a2
      obtain ⟨r, hr⟩ : ∃ r, rt l p = r := ⟨_, rfl⟩
      have HRR := Aside0.mk hr
      rw [hr] at b2
      obtain ⟨x, y⟩ := p
      simp only at hp1 hp2 b0 b1
      have hsm : smR m l (x, y) = decide (y ≤ m.length ∧ rt m (x, y) = r) := by unfold smR; rw [hr]
      have hiI : (i : Int) < k := by omega
      have hi0 : (0 : Int) ≤ i := by omega
      clear a0 a1 a2 hp hpm hr
      have HNX0 := Aside0.mk HI.out.2.1
      by_cases hyn : y ≤ n
      · have HOF : Aside0 (∀ w : World, LS w A n c m → Calls Try.prog 12 #[.slice A n c, .int .i64 (x : Int), .int .i64 (y : Int)] w fun e w' => e = .returned (.tuple #[rv m x y, .bool true]) ∧ Below w.heap.size w w') := ⟨fun w h => of_in m A n c x y hp1 hyn w h⟩
        unfold rv at HOF
        rw [show root lf pr (sub m x (y - x)) = rt m (x, y) from rfl] at HOF
        by_cases hrr : rt m (x, y) = r
        · have HNX : Aside0 (xs ++ unl m l (i + 1) (o.drop (i + 1)) = RES) := ⟨by
            have := HNX0.out
            rwa [HUD.out, hsm, if_pos (decide_eq_true ⟨by rw [HL.out.len]; exact hyn, hrr⟩)] at this⟩
          rw [hrr] at HOF
          clear hsm hrr
          skip
          have hal : Below wr.heap.size wr (wr.alloc (.cells #[.int .i64 (x : Int), .int .i64 (y : Int), .int .u64 r] 37)) := below_alloc (Below.refl _ _) _
          go_wp2_with fail
          refine (HOF.out _ ((HL.out.below HP.out.2).below hal)).mono ?_
          rintro e w2 ⟨rfl, hb2⟩
          have hx7 := blk_below (blk_new wr (.cells #[.int .i64 (x : Int), .int .i64 (y : Int), .int .u64 r] 37)) hb2
          have k2 : w2.cell? ⟨wr.heap.size, 2, none⟩ = some (.int .u64 r) := (blk_cell hx7 2).trans rfl
          have hz2 : wr.heap.size < w2.heap.size := by have := hb2.size; simp at this; omega
          have HP3 : Aside0 ((w2.alloc (.cells #[.int .i64 (x : Int), .int .i64 (y : Int), .int .u64 r] 37)).ownsRow w0.heap.size 3 1 u5 xs.length (nums .i64 xs) ∧ Below w0.heap.size w0 (w2.alloc (.cells #[.int .i64 (x : Int), .int .i64 (y : Int), .int .u64 r] 37))) := ⟨by
            have h2 : Below wr.heap.size wr (w2.alloc (.cells #[.int .i64 (x : Int), .int .i64 (y : Int), .int .u64 r] 37)) := below_step (below_step hal hb2) (below_alloc (Below.refl _ _) _)
            exact ⟨(Ch.of_below (S := fun _ => False) h2).own HP.out.1 (fun _ _ h => h), below_step HP.out.2 h2⟩⟩
          have HKK : Aside0 ((w2.alloc (.cells #[.int .i64 (x : Int), .int .i64 (y : Int), .int .u64 r] 37)).heap.size = w2.heap.size + 1) := ⟨by simp⟩
          have hsz3 : w0.heap.size ≤ w2.heap.size + 1 := by have := HP.out.2.size; omega
          have hxl : xs.length ≤ 60 := by have := HI.out.2.2; omega
          clear hb2 hx7 hal HOF b0 b1 b2 HP
          go_wp2
          go_roundg (gk - 1)
          case measure => have := HI.out.1; omega
          case rel => exact ⟨i + 1, xs, by go_num, ⟨by have := HI.out.1; omega, HNX.out, by have := HI.out.2.2; omega⟩, HP3⟩
        · have HNX : Aside0 (xs ++ ([(i : Int)] ++ unl m l (i + 1) (o.drop (i + 1))) = RES) := ⟨by
            have := HNX0.out
            rwa [HUD.out, hsm, if_neg (by rw [decide_eq_false (fun h => hrr h.2)]; decide)] at this⟩
          obtain ⟨r2, hr2⟩ : ∃ r2, rt m (x, y) = r2 := ⟨_, rfl⟩
          rw [hr2] at HOF hrr
          have hne : (r2 == r) = false := beq_eq_false_iff_ne.2 hrr
          clear hsm hrr hr2
          skip
          have hal : Below wr.heap.size wr (wr.alloc (.cells #[.int .i64 (x : Int), .int .i64 (y : Int), .int .u64 r] 37)) := below_alloc (Below.refl _ _) _
          go_wp2_with fail
          refine (HOF.out _ ((HL.out.below HP.out.2).below hal)).mono ?_
          rintro e w2 ⟨rfl, hb2⟩
          have hx7 := blk_below (blk_new wr (.cells #[.int .i64 (x : Int), .int .i64 (y : Int), .int .u64 r] 37)) hb2
          have k2 : w2.cell? ⟨wr.heap.size, 2, none⟩ = some (.int .u64 r) := (blk_cell hx7 2).trans rfl
          have hz2 : wr.heap.size < w2.heap.size := by have := hb2.size; simp at this; omega
          have HP3 : Aside0 ((w2.alloc (.cells #[.int .i64 (x : Int), .int .i64 (y : Int), .int .u64 r2] 37)).ownsRow w0.heap.size 3 1 u5 xs.length (nums .i64 xs) ∧ Below w0.heap.size w0 (w2.alloc (.cells #[.int .i64 (x : Int), .int .i64 (y : Int), .int .u64 r2] 37))) := ⟨by
            have h2 : Below wr.heap.size wr (w2.alloc (.cells #[.int .i64 (x : Int), .int .i64 (y : Int), .int .u64 r2] 37)) := below_step (below_step hal hb2) (below_alloc (Below.refl _ _) _)
            exact ⟨(Ch.of_below (S := fun _ => False) h2).own HP.out.1 (fun _ _ h => h), below_step HP.out.2 h2⟩⟩
          have HKK : Aside0 ((w2.alloc (.cells #[.int .i64 (x : Int), .int .i64 (y : Int), .int .u64 r2] 37)).heap.size = w2.heap.size + 1) := ⟨by simp⟩
          have hsz3 : w0.heap.size ≤ w2.heap.size + 1 := by have := HP.out.2.size; omega
          have hxl : xs.length ≤ 60 := by have := HI.out.2.2; omega
          clear hb2 hx7 hal HOF b0 b1 b2 HP
          go_wp2_with ((with_reducible refine gate_dst (N := 38) rfl ?_); refine app_num (w0 := _) w0.heap.size rfl (.tmp 35) (.tmp 37) 25 3 .i64 8 rfl Try.underlying25 info3 (by decide) (w2.heap.size + 1) HKK.out u5 xs (i : Int) rfl rfl HP3.out.1 (Below.refl _ _) hsz3 (by omega) ?_; intro v1 w5 hown hbel hgrow hat; have HW1 := Aside0.mk (And.intro hown (HP3.out.2.grown hgrow (by simp; omega) (fun k hk => own_blk HP3.out.1 k hk))); clear hown hbel hgrow hat)
          go_roundg (gk - 1)
          case measure => have := HI.out.1; omega
          case rel => exact ⟨i + 1, xs ++ [(i : Int)], by go_num, ⟨by have := HI.out.1; omega, by rw [List.append_assoc]; exact HNX.out, by have := HI.out.2.2; simp; omega⟩, HW1⟩
      · have HNX : Aside0 (xs ++ ([(i : Int)] ++ unl m l (i + 1) (o.drop (i + 1))) = RES) := ⟨by
          have := HNX0.out
          rwa [HUD.out, hsm, if_neg (by rw [decide_eq_false (fun h => hyn (by have := h.1; rw [HL.out.len] at this; exact this))]; decide)] at this⟩
        have HOF : Aside0 (∀ w : World, LS w A n c m → Calls Try.prog 12 #[.slice A n c, .int .i64 (x : Int), .int .i64 (y : Int)] w fun e w' => e = .returned (.tuple #[rz, .bool false]) ∧ Below w.heap.size w w') := ⟨fun w h => of_out A n c x y hn h.cap (by omega) w⟩
        unfold rz at HOF
        clear hsm
        skip
        have hal : Below wr.heap.size wr (wr.alloc (.cells #[.int .i64 (x : Int), .int .i64 (y : Int), .int .u64 r] 37)) := below_alloc (Below.refl _ _) _
        go_wp2_with fail
        refine (HOF.out _ ((HL.out.below HP.out.2).below hal)).mono ?_
        rintro e w2 ⟨rfl, hb2⟩
        have hx7 := blk_below (blk_new wr (.cells #[.int .i64 (x : Int), .int .i64 (y : Int), .int .u64 r] 37)) hb2
        have k2 : w2.cell? ⟨wr.heap.size, 2, none⟩ = some (.int .u64 r) := (blk_cell hx7 2).trans rfl
        have hz2 : wr.heap.size < w2.heap.size := by have := hb2.size; simp at this; omega
        have HP3 : Aside0 ((w2.alloc (.cells #[.int .i64 0, .int .i64 0, .int .u64 0] 37)).ownsRow w0.heap.size 3 1 u5 xs.length (nums .i64 xs) ∧ Below w0.heap.size w0 (w2.alloc (.cells #[.int .i64 0, .int .i64 0, .int .u64 0] 37))) := ⟨by
          have h2 : Below wr.heap.size wr (w2.alloc (.cells #[.int .i64 0, .int .i64 0, .int .u64 0] 37)) := below_step (below_step hal hb2) (below_alloc (Below.refl _ _) _)
          exact ⟨(Ch.of_below (S := fun _ => False) h2).own HP.out.1 (fun _ _ h => h), below_step HP.out.2 h2⟩⟩
        have HKK : Aside0 ((w2.alloc (.cells #[.int .i64 0, .int .i64 0, .int .u64 0] 37)).heap.size = w2.heap.size + 1) := ⟨by simp⟩
        have hsz3 : w0.heap.size ≤ w2.heap.size + 1 := by have := HP.out.2.size; omega
        have hxl : xs.length ≤ 60 := by have := HI.out.2.2; omega
        clear hb2 hx7 hal HOF b0 b1 b2 HP
        go_wp2_with ((with_reducible refine gate_dst (N := 38) rfl ?_); refine app_num (w0 := _) w0.heap.size rfl (.tmp 35) (.tmp 37) 25 3 .i64 8 rfl Try.underlying25 info3 (by decide) (w2.heap.size + 1) HKK.out u5 xs (i : Int) rfl rfl HP3.out.1 (Below.refl _ _) hsz3 (by omega) ?_; intro v1 w5 hown hbel hgrow hat; have HW1 := Aside0.mk (And.intro hown (HP3.out.2.grown hgrow (by simp; omega) (fun k hk => own_blk HP3.out.1 k hk))); clear hown hbel hgrow hat)
        go_roundg (gk - 1)
        case measure => have := HI.out.1; omega
        case rel => exact ⟨i + 1, xs ++ [(i : Int)], by go_num, ⟨by have := HI.out.1; omega, by rw [List.append_assoc]; exact HNX.out, by have := HI.out.2.2; simp; omega⟩, HW1⟩
    · have hk2 : i = k := by have := HI.out.1; omega
      subst hk2
      have HF : Aside0 (xs = RES) := ⟨by
        have := HI.out.2.1
        rw [List.drop_eq_nil_of_le (by have := HK.out; omega)] at this
        exact (List.append_nil xs).symm.trans this⟩
      have hiI : ¬ (i : Int) < i := by omega
      go_wp2
      go_ret
      rw [← HF.out]
      exact ⟨_, rfl, HP.out.1, HP.out.2⟩
end Go.Proofs.Ytfijbhacobjjgaf
