/- Rows of ranges; the contract of Cut. -/
import Derived.Test.YtfijbhacobjjgafWEqStruct
import Derived.Test.YtfijbhacobjjgafProg
import Derived.Test.YtfijbhacobjjgafVals
import Derived.Test.YtfijbhacobjjgafWLast
import Derived.Test.YtfijbhacobjjgafWMore
import Derived.RegionTactic
import Derived.ChangeAlike
import Derived.BigRegion
import Derived.WalkLawsBesides
import Derived.WalkSpells
import Derived.Deep.LoopGhost
import Derived.Deep.QuietTactic
import Derived.BigQuiet
import Derived.OwnWalk
import Derived.Test.YtfijbhacobjjgafAwakeA
namespace Go.Proofs.Ytfijbhacobjjgaf
open Go.RowKit Go.Proofs.YtfijbhacobjjgafW.PrintWords Go.Proofs.YtfijbhacobjjgafW.PrintLast Go.Proofs.YtfijbhacobjjgafW.PrintMore Go.Proofs.Ytfijbhacobjjgaf.Fr
set_option linter.unusedVariables false
set_option linter.unusedSimpArgs false
attribute [local go_sem] max2_int min2_int max_two min_two

open Pl
theorem info37 : (Try.prog.info? 37).map (fun i => (i.zero, i.size, i.bytes)) = some (some (.agg #[.int .i64 0, .int .i64 0, .int .u64 0]), 3, 24) := by kernel_rfl
def rt (l : List ByteArray) (p : Nat × Nat) : Int := root lf pr (sub l p.1 (p.2 - p.1))
def rcs (l : List ByteArray) (o : List (Nat × Nat)) : List Value := o.flatMap (fun p => [.int .i64 (p.1 : Int), .int .i64 (p.2 : Int), .int .u64 (rt l p)])
theorem rcs_len (l : List ByteArray) (o : List (Nat × Nat)) : (rcs l o).length = o.length * 3 := by
  induction o with
  | nil => rfl
  | cons p r ih => simp [rcs] at ih ⊢; omega
theorem rcs_snoc (l : List ByteArray) (o : List (Nat × Nat)) (p : Nat × Nat) : rcs l (o ++ [p]) = rcs l o ++ [.int .i64 (p.1 : Int), .int .i64 (p.2 : Int), .int .u64 (rt l p)] := by simp [rcs]
theorem rcs_get (l : List ByteArray) (o : List (Nat × Nat)) : ∀ (k : Nat), k < o.length → (rcs l o)[k * 3]? = some (.int .i64 ((o.getD k (0, 0)).1 : Int)) ∧ (rcs l o)[k * 3 + 1]? = some (.int .i64 ((o.getD k (0, 0)).2 : Int)) ∧ (rcs l o)[k * 3 + 2]? = some (.int .u64 (rt l (o.getD k (0, 0)))) := by
  induction o with
  | nil => intro k hk; simp at hk
  | cons p r ih =>
    intro k hk
    cases k with
    | zero => exact ⟨rfl, rfl, rfl⟩
    | succ k =>
      have := ih k (by simpa using hk)
      have e : rcs l (p :: r) = .int .i64 (p.1 : Int) :: .int .i64 (p.2 : Int) :: .int .u64 (rt l p) :: rcs l r := rfl
      rw [e, show (k + 1) * 3 = k * 3 + 1 + 1 + 1 by omega]
      simpa using this
/-- A row of ranges of the call's own. -/
def RR (l : List ByteArray) (B : Nat) (w : World) (v : Value) (o : List (Nat × Nat)) : Prop := w.ownsRow B 37 3 v o.length (rcs l o)
section
variable {l : List ByteArray} {B : Nat} {w w1 : World} {v : Value} {o : List (Nat × Nat)}
theorem RR.below (h : RR l B w v o) (hb : Below w.heap.size w w1) : RR l B w1 v o := (Ch.of_below (S := fun _ => False) hb).own h (fun _ _ h => h)
theorem RR.shape (h : RR l B w v o) : ∃ A c, v = .slice A o.length c ∧ o.length ≤ c ∧ c ≤ 9223372036854775807 ∧ ∀ k, k < o.length → ∃ g, A = some ⟨g, 0, none⟩ ∧ B ≤ g ∧ g < w.heap.size ∧ w.cell? ⟨g, k * 3, none⟩ = some (.int .i64 ((o.getD k (0, 0)).1 : Int)) ∧ w.cell? ⟨g, k * 3 + 1, none⟩ = some (.int .i64 ((o.getD k (0, 0)).2 : Int)) ∧ w.cell? ⟨g, k * 3 + 2, none⟩ = some (.int .u64 (rt l (o.getD k (0, 0)))) := by
  rcases h.2 with ⟨rfl, h0⟩ | ⟨g, cap, cur, rfl, hb, hh, hn, hc, hs, ht⟩
  · obtain rfl : o = [] := List.eq_nil_of_length_eq_zero h0
    exact ⟨none, 0, rfl, by simp, by omega, fun k hk => by simp at hk⟩
  · have hget : ∀ j x, j < o.length * 3 → (rcs l o)[j]? = some x → w.cell? ⟨g, j, none⟩ = some x := fun j x hj hx => by
      rw [blk_cell hh, ← Array.getElem?_toList]
      have e : (cur.toList.take (o.length * 3))[j]? = (rcs l o)[j]? := by rw [ht]
      rw [List.getElem?_take, if_pos hj] at e
      rw [e]
      exact hx
    refine ⟨_, cap, rfl, hn, by simpa [maxLen] using hc, fun k hk => ⟨g, rfl, hb, blk_lt hh, ?_, ?_, ?_⟩⟩
    · exact hget _ _ (by omega) (rcs_get l o k hk).1
    · exact hget _ _ (by omega) (rcs_get l o k hk).2.1
    · exact hget _ _ (by omega) (rcs_get l o k hk).2.2
end
theorem app_cells {P : Program} {ops : Array Oper} {rest : List Oper} {o : Oper} {a : Act} {Q : Exit → Act → World → Prop} {w0 W : World} (base : Nat) (hgd : o.guard = none) (s x : Operand) (t e : TypeId) (z : Value) (size bytes : Nat) (k : Nat)
    (ho : o.op = .call { callee := .builtin .append, args := #[s, x], argTypes := #[t, t] })
    (ht : P.underlying t = some (.slice e)) (hinfo : (P.info? e).map (fun i => (i.zero, i.size, i.bytes)) = some (some z, size, bytes)) (hz : z.cells.size = size) (hs0 : 0 < size) (hb0 : 0 < bytes)
    (v : Value) (n : Nat) (xs ys : List Value) (hs : a.eval s = v) (hx : a.eval x = .slice (some ⟨k, 0, none⟩) 1 1) (hk : W.heap.size = k) (hys : ys.length = size) (h1 : ∀ u ∈ ys, u.oneCell' = true)
    (HO : W.ownsRow base e size v n xs) (HB : Below base w0 W) (hbase : base ≤ k) (hl : (n + 1) * bytes ≤ 140737488355328)
    (h : ∀ v1 w1, w1.ownsRow base e size v1 (n + 1) (xs ++ ys) → Below base w0 w1 → W.grownBy w1 v.ownBlock → (v1.ownBlock = v.ownBlock ∨ ∃ b, v1.ownBlock = some b ∧ k ≤ b) → wpList P ops Q rest (a.put o.dst v1) w1) :
    wpList P ops Q (o :: rest) a (W.alloc (.cells ys.toArray e)) := by
  subst hk
  exact print_append_cells base hgd s x t e z size bytes ho ht hinfo hz hs0 hb0 v n xs ys hs hx hys h1 HO HB hbase hl h
/-- Where ranges of one width lie. -/
def cts (n wn : Nat) : Nat → Nat → List (Nat × Nat)
  | 0, _ => []
  | f + 1, x => if x < n then (x, x + min wn (n - x)) :: cts n wn f (x + min wn (n - x)) else []
theorem cts_len (n wn : Nat) : ∀ f x, (cts n wn f x).length ≤ f
  | 0, x => Nat.le_refl _
  | f + 1, x => by
    unfold cts
    split
    · have := cts_len n wn f (x + min wn (n - x)); simp; omega
    · simp
def CutPost (l : List ByteArray) (o : List (Nat × Nat)) (w : World) (e : Ending) (w' : World) : Prop := ∃ v, e = .returned v ∧ RR l w.heap.size w' v o ∧ Below w.heap.size w w'
set_option maxRecDepth 100000 in
set_option maxHeartbeats 1000000 in
theorem cut_any (l : List ByteArray) (A : Option Addr) (n c : Nat) (W : Int) (w0 : World) (hL : LS w0 A n c l) (hW1 : -9223372036854775808 ≤ W) (hW2 : W ≤ 9223372036854775807) : Calls Try.prog 16 #[.slice A n c, .int .i64 W] w0 (CutPost l (cts n (max W 1).toNat n 0) w0) := by
  have hn := hL.le
  have hl0 := hL.len
  have HL := Aside0.mk hL
  have HBR : Aside0 (∀ w : World, Calls Try.prog 18 #[.slice A n c] w fun e w' => e = .returned (.slice A n c) ∧ w' = w) := ⟨fun w => brought_any A n c (by omega) hL.cap w⟩
  obtain ⟨wn, hwn⟩ : ∃ wn, (max W 1).toNat = wn := ⟨_, rfl⟩
  rw [hwn]
  have hww : (W < 1 ∧ wn = 1) ∨ (1 ≤ W ∧ (wn : Int) = W) := by omega
  obtain ⟨RES, hRES⟩ : ∃ RES, cts n wn n 0 = RES := ⟨_, rfl⟩
  have HI0 : Aside0 (0 + n = n ∧ [] ++ cts n wn n 0 = RES ∧ 0 ≤ n ∧ ([] : List (Nat × Nat)).length ≤ 0) := ⟨Nat.zero_add _, hRES, Nat.zero_le _, Nat.le_refl _⟩
  rw [hRES]
  clear hL hwn hRES hl0
  rcases hww with ⟨hw1, rfl⟩ | ⟨hw1, hw2⟩
  · skip
    go_enter Try.func16, Try.ntmps16
    go_wp2_with fail
    refine (HBR.out _).mono ?_
    rintro e w1 ⟨rfl, rfl⟩
    go_wp2
    go_loopg [5, 6] n (fun gk x5 x6 wr => ∃ (x : Nat) (o : List (Nat × Nat)), x6 = .int .i64 x ∧ Aside0 (n ≤ x + gk ∧ o ++ cts n 1 gk x = RES ∧ x ≤ n ∧ o.length + gk ≤ n) ∧ Aside0 (RR l w1.heap.size wr x5 o ∧ Below w1.heap.size w1 wr))
    case atStart => exact ⟨0, [], rfl, ⟨by omega, HI0.out.2.1, Nat.zero_le _, by simp⟩, ⟨⟨rfl, .inl ⟨rfl, rfl⟩⟩, Below.refl _ _⟩⟩
    case round =>
      clear HI0
      obtain ⟨x, o, rfl, HI, HP⟩ := hrel
      by_cases hlt : x < n
      · obtain ⟨f, rfl⟩ : ∃ f, gk = f + 1 := ⟨gk - 1, by have := HI.out.1; omega⟩
        obtain ⟨t, ht⟩ : ∃ t, x + min 1 (n - x) = t := ⟨_, rfl⟩
        have HNX : Aside0 (n ≤ t + f ∧ (o ++ [(x, t)]) ++ cts n 1 f t = RES ∧ t ≤ n ∧ (o ++ [(x, t)]).length + f ≤ n) := ⟨by
          obtain ⟨i1, i2, i3, i4⟩ := HI.out
          unfold cts at i2
          rw [if_pos hlt, ht] at i2
          refine ⟨by omega, by rw [List.append_assoc]; exact i2, by omega, by simp; omega⟩⟩
        have hxt : x < t := by omega
        have htn : t ≤ n := by omega
        have hol : o.length ≤ 60 := by have := HI.out.2.2.2; omega
        have hd : (1 ≤ (n : Int) - x ∧ (t : Int) ≤ x + 1 ∧ (x : Int) + 1 ≤ t) ∨ (¬ 1 ≤ (n : Int) - x ∧ n ≤ t) := by omega
        have HO : Aside0 (∀ (z : Int) (w : World), z = (t : Int) → LS w A n c l → Calls Try.prog 12 #[.slice A n c, .int .i64 (x : Int), .int .i64 z] w fun e w' => e = .returned (.tuple #[rv l x t, .bool true]) ∧ Below w.heap.size w w') := ⟨fun z w hz h => by rw [hz]; exact of_in l A n c x t (by omega) htn w h⟩
        unfold rv at HO
        obtain ⟨r, hr⟩ : ∃ r, root lf pr (sub l x (t - x)) = r := ⟨_, rfl⟩
        have HRR := Aside0.mk hr
        rw [hr] at HO
        have hxn : (x : Int) < n := by omega
        clear ht hr HI
        rcases hd with ⟨hd1, hd2, hd3⟩ | ⟨hd1, hd2⟩
        · skip
          go_wp2_with fail
          refine (HO.out _ _ (by omega) (HL.out.below HP.out.2)).mono ?_
          rintro e w3 ⟨rfl, hb3⟩
          have HP3 : Aside0 (RR l w1.heap.size (w3.alloc (.cells #[.int .i64 (x : Int), .int .i64 (t : Int), .int .u64 r] 37)) u5 o ∧ Below w1.heap.size w1 (w3.alloc (.cells #[.int .i64 (x : Int), .int .i64 (t : Int), .int .u64 r] 37))) := ⟨HP.out.1.below (below_step hb3 (below_alloc (Below.refl _ _) _)), below_step HP.out.2 (below_step hb3 (below_alloc (Below.refl _ _) _))⟩
          have hsz3 : w1.heap.size ≤ w3.heap.size + 1 := by have := HP.out.2.size; have := hb3.size; omega
          have HKK : Aside0 ((w3.alloc (.cells #[.int .i64 (x : Int), .int .i64 (t : Int), .int .u64 r] 37)).heap.size = w3.heap.size + 1) := ⟨by simp⟩
          clear hb3 HO HP
          go_wp2_with ((with_reducible refine gate_dst (N := 36) rfl ?_); refine app_cells (w0 := _) w1.heap.size rfl (.tmp 33) (.tmp 35) 41 37 (.agg #[.int .i64 0, .int .i64 0, .int .u64 0]) 3 24 (w3.heap.size + 1) rfl Try.underlying41 info37 rfl (by decide) (by decide) u5 o.length (rcs l o) [.int .i64 (x : Int), .int .i64 (t : Int), .int .u64 r] rfl rfl HKK.out rfl (by simp [Value.oneCell']) HP3.out.1 (Below.refl _ _) hsz3 (by omega) ?_; intro v1 w1 hown hbel hgrow hat; have HW1 := Aside0.mk (And.intro hown (HP3.out.2.grown hgrow (by simp; omega) (fun k hk => own_blk HP3.out.1 k hk))); clear hown hbel hgrow hat)
          go_roundg f
          case measure => omega
          case rel => exact ⟨t, o ++ [(x, t)], by first | rfl | (congr 1; omega), HNX, ⟨by
            unfold RR
            rw [rcs_snoc, show (o ++ [(x, t)]).length = o.length + 1 by simp, show rt l (x, t) = r from HRR.out]
            exact HW1.out.1, HW1.out.2⟩⟩
        · exfalso; omega
      · have hxn : ¬ (x : Int) < n := by omega
        have HF : Aside0 (o = RES) := ⟨by
          obtain ⟨i1, i2, i3, i4⟩ := HI.out
          have e : cts n 1 gk x = [] := by
            cases gk with
            | zero => rfl
            | succ f => unfold cts; rw [if_neg hlt]
          rw [e, List.append_nil] at i2
          exact i2⟩
        go_wp2
        go_ret
        rw [← HF.out]
        exact ⟨_, rfl, HP.out.1, HP.out.2⟩
  · skip
    go_enter Try.func16, Try.ntmps16
    go_wp2_with fail
    refine (HBR.out _).mono ?_
    rintro e w1 ⟨rfl, rfl⟩
    go_wp2
    go_loopg [5, 6] n (fun gk x5 x6 wr => ∃ (x : Nat) (o : List (Nat × Nat)), x6 = .int .i64 x ∧ Aside0 (n ≤ x + gk ∧ o ++ cts n wn gk x = RES ∧ x ≤ n ∧ o.length + gk ≤ n) ∧ Aside0 (RR l w1.heap.size wr x5 o ∧ Below w1.heap.size w1 wr))
    case atStart => exact ⟨0, [], rfl, ⟨by omega, HI0.out.2.1, Nat.zero_le _, by simp⟩, ⟨⟨rfl, .inl ⟨rfl, rfl⟩⟩, Below.refl _ _⟩⟩
    case round =>
      clear HI0
      obtain ⟨x, o, rfl, HI, HP⟩ := hrel
      by_cases hlt : x < n
      · obtain ⟨f, rfl⟩ : ∃ f, gk = f + 1 := ⟨gk - 1, by have := HI.out.1; omega⟩
        obtain ⟨t, ht⟩ : ∃ t, x + min wn (n - x) = t := ⟨_, rfl⟩
        have HNX : Aside0 (n ≤ t + f ∧ (o ++ [(x, t)]) ++ cts n wn f t = RES ∧ t ≤ n ∧ (o ++ [(x, t)]).length + f ≤ n) := ⟨by
          obtain ⟨i1, i2, i3, i4⟩ := HI.out
          unfold cts at i2
          rw [if_pos hlt, ht] at i2
          refine ⟨by omega, by rw [List.append_assoc]; exact i2, by omega, by simp; omega⟩⟩
        have hxt : x < t := by omega
        have htn : t ≤ n := by omega
        have hol : o.length ≤ 60 := by have := HI.out.2.2.2; omega
        have hd : (W ≤ (n : Int) - x ∧ (t : Int) ≤ x + W ∧ (x : Int) + W ≤ t) ∨ (¬ W ≤ (n : Int) - x ∧ n ≤ t) := by omega
        have HO : Aside0 (∀ (z : Int) (w : World), z = (t : Int) → LS w A n c l → Calls Try.prog 12 #[.slice A n c, .int .i64 (x : Int), .int .i64 z] w fun e w' => e = .returned (.tuple #[rv l x t, .bool true]) ∧ Below w.heap.size w w') := ⟨fun z w hz h => by rw [hz]; exact of_in l A n c x t (by omega) htn w h⟩
        unfold rv at HO
        obtain ⟨r, hr⟩ : ∃ r, root lf pr (sub l x (t - x)) = r := ⟨_, rfl⟩
        have HRR := Aside0.mk hr
        rw [hr] at HO
        have hxn : (x : Int) < n := by omega
        clear ht hr HI
        rcases hd with ⟨hd1, hd2, hd3⟩ | ⟨hd1, hd2⟩
        · skip
          go_wp2_with fail
          refine (HO.out _ _ (by omega) (HL.out.below HP.out.2)).mono ?_
          rintro e w3 ⟨rfl, hb3⟩
          have HP3 : Aside0 (RR l w1.heap.size (w3.alloc (.cells #[.int .i64 (x : Int), .int .i64 (t : Int), .int .u64 r] 37)) u5 o ∧ Below w1.heap.size w1 (w3.alloc (.cells #[.int .i64 (x : Int), .int .i64 (t : Int), .int .u64 r] 37))) := ⟨HP.out.1.below (below_step hb3 (below_alloc (Below.refl _ _) _)), below_step HP.out.2 (below_step hb3 (below_alloc (Below.refl _ _) _))⟩
          have hsz3 : w1.heap.size ≤ w3.heap.size + 1 := by have := HP.out.2.size; have := hb3.size; omega
          have HKK : Aside0 ((w3.alloc (.cells #[.int .i64 (x : Int), .int .i64 (t : Int), .int .u64 r] 37)).heap.size = w3.heap.size + 1) := ⟨by simp⟩
          clear hb3 HO HP
          go_wp2_with ((with_reducible refine gate_dst (N := 36) rfl ?_); refine app_cells (w0 := _) w1.heap.size rfl (.tmp 33) (.tmp 35) 41 37 (.agg #[.int .i64 0, .int .i64 0, .int .u64 0]) 3 24 (w3.heap.size + 1) rfl Try.underlying41 info37 rfl (by decide) (by decide) u5 o.length (rcs l o) [.int .i64 (x : Int), .int .i64 (t : Int), .int .u64 r] rfl rfl HKK.out rfl (by simp [Value.oneCell']) HP3.out.1 (Below.refl _ _) hsz3 (by omega) ?_; intro v1 w1 hown hbel hgrow hat; have HW1 := Aside0.mk (And.intro hown (HP3.out.2.grown hgrow (by simp; omega) (fun k hk => own_blk HP3.out.1 k hk))); clear hown hbel hgrow hat)
          go_roundg f
          case measure => omega
          case rel => exact ⟨t, o ++ [(x, t)], by first | rfl | (congr 1; omega), HNX, ⟨by
            unfold RR
            rw [rcs_snoc, show (o ++ [(x, t)]).length = o.length + 1 by simp, show rt l (x, t) = r from HRR.out]
            exact HW1.out.1, HW1.out.2⟩⟩
        · skip
          go_wp2_with fail
          refine (HO.out _ _ (by omega) (HL.out.below HP.out.2)).mono ?_
          rintro e w3 ⟨rfl, hb3⟩
          have HP3 : Aside0 (RR l w1.heap.size (w3.alloc (.cells #[.int .i64 (x : Int), .int .i64 (t : Int), .int .u64 r] 37)) u5 o ∧ Below w1.heap.size w1 (w3.alloc (.cells #[.int .i64 (x : Int), .int .i64 (t : Int), .int .u64 r] 37))) := ⟨HP.out.1.below (below_step hb3 (below_alloc (Below.refl _ _) _)), below_step HP.out.2 (below_step hb3 (below_alloc (Below.refl _ _) _))⟩
          have hsz3 : w1.heap.size ≤ w3.heap.size + 1 := by have := HP.out.2.size; have := hb3.size; omega
          have HKK : Aside0 ((w3.alloc (.cells #[.int .i64 (x : Int), .int .i64 (t : Int), .int .u64 r] 37)).heap.size = w3.heap.size + 1) := ⟨by simp⟩
          clear hb3 HO HP
          go_wp2_with ((with_reducible refine gate_dst (N := 36) rfl ?_); refine app_cells (w0 := _) w1.heap.size rfl (.tmp 33) (.tmp 35) 41 37 (.agg #[.int .i64 0, .int .i64 0, .int .u64 0]) 3 24 (w3.heap.size + 1) rfl Try.underlying41 info37 rfl (by decide) (by decide) u5 o.length (rcs l o) [.int .i64 (x : Int), .int .i64 (t : Int), .int .u64 r] rfl rfl HKK.out rfl (by simp [Value.oneCell']) HP3.out.1 (Below.refl _ _) hsz3 (by omega) ?_; intro v1 w1 hown hbel hgrow hat; have HW1 := Aside0.mk (And.intro hown (HP3.out.2.grown hgrow (by simp; omega) (fun k hk => own_blk HP3.out.1 k hk))); clear hown hbel hgrow hat)
          go_roundg f
          case measure => omega
          case rel => exact ⟨t, o ++ [(x, t)], by first | rfl | (congr 1; omega), HNX, ⟨by
            unfold RR
            rw [rcs_snoc, show (o ++ [(x, t)]).length = o.length + 1 by simp, show rt l (x, t) = r from HRR.out]
            exact HW1.out.1, HW1.out.2⟩⟩
      · have hxn : ¬ (x : Int) < n := by omega
        have HF : Aside0 (o = RES) := ⟨by
          obtain ⟨i1, i2, i3, i4⟩ := HI.out
          have e : cts n wn gk x = [] := by
            cases gk with
            | zero => rfl
            | succ f => unfold cts; rw [if_neg hlt]
          rw [e, List.append_nil] at i2
          exact i2⟩
        go_wp2
        go_ret
        rw [← HF.out]
        exact ⟨_, rfl, HP.out.1, HP.out.2⟩
end Go.Proofs.Ytfijbhacobjjgaf
