/- The document's table: how it lies; New, At. -/
import Derived.Test.YtfijbhacobjjgahTopA
import Derived.Test.YtfijbhacobjjgahStrs
namespace Go.Proofs.Ytfijbhacobjjgah
open Go.RowKit Go.Proofs.YtfijbhacobjjgahW.PrintWords Go.Proofs.YtfijbhacobjjgahW.PrintLast Go.Proofs.YtfijbhacobjjgahW.PrintMore Go.Proofs.Ytfijbhacobjjgah.Fr
set_option linter.unusedVariables false
set_option linter.unusedSimpArgs false
attribute [local go_sem] max2_int min2_int max_two min_two

open Pl Hp
structure DT (B : Nat) (w : World) (b : Nat) (room : Nat) (v : Value) (L : List It) : Prop where
  box : w.heap[b]? = some (.cells #[.int .i64 (room : Nat), v] 40 (0, 0))
  row : w.ownsRow B 37 2 v L.length (ents L)
  ne : some b ≠ v.ownBlock
  lo : B ≤ b
section
variable {B b room : Nat} {w w1 : World} {v : Value} {L : List It} {S : Nat → Prop}
theorem DT.ch (h : DT B w b room v L) (hc : Ch S w w1) (h1 : ¬ S b) (h2 : ∀ k, v.ownBlock = some k → ¬ S k) : DT B w1 b room v L := ⟨hc.blk h.box h1, hc.own h.row h2, h.ne, h.lo⟩
theorem DT.below (h : DT B w b room v L) (hb : Below w.heap.size w w1) : DT B w1 b room v L := h.ch (S := fun _ => False) (Ch.of_below hb) (fun e => e) (fun _ _ e => e)
theorem DT.slice (h : DT B w b room v L) : ∃ A c, v = .slice A L.length c ∧ L.length ≤ c := by
  rcases h.row.2 with ⟨rfl, h0⟩ | ⟨g, cap, cur, rfl, _, _, hn, _⟩
  · exact ⟨none, 0, by rw [h0], by omega⟩
  · exact ⟨_, _, rfl, hn⟩
theorem own_item {e : TypeId} {A : Option Addr} {n c : Nat} (h : w.ownsRow B e 2 (.slice A n c) L.length (ents L)) (i : Nat) (hi : i < L.length) : ∃ g, A = some ⟨g, 0, none⟩ ∧ w.cell? ⟨g, i * 2, none⟩ = some (.string (L.getD i ez).t) ∧ w.cell? ⟨g, i * 2 + 1, none⟩ = some (.int .i64 (L.getD i ez).c) ∧ w.frozen? ⟨g, i * 2 + 1, none⟩ = false := by
  rcases h.2 with ⟨_, h0⟩ | ⟨g, cap, cur, e1, hb, hh, hn, hc, hs, ht⟩
  · omega
  · cases e1
    have hget : ∀ j, j < 2 → w.cell? ⟨g, i * 2 + j, none⟩ = (enc (L.getD i ez))[j]? := fun j hj => by
      rw [blk_cell hh, ← Array.getElem?_toList]
      have e : (cur.toList.take (L.length * 2))[i * 2 + j]? = (ents L)[i * 2 + j]? := by rw [ht]
      rw [List.getElem?_take, if_pos (by omega)] at e
      rw [e, ents_get L i j hi hj]
    exact ⟨g, rfl, hget 0 (by omega), hget 1 (by omega), blk_frozen hh _⟩
end
theorem bring_any (n lo hi : Int) (hlo : lo ≤ hi) (w : World) : Calls Try.prog 20 #[.int .i64 n, .int .i64 lo, .int .i64 hi] w fun e w' => e = .returned (.int .i64 (brI n lo hi)) ∧ w = w' := by
  have E : Aside0 (brI n lo hi = min (max n lo) hi) := ⟨rfl⟩
  go_enter Try.func20, Try.ntmps20
  go_wp2
  all_goals
    go_ret
    rw [E.out]
    have key : ∀ r, r = min (max n lo) hi → Ending.returned (.int .i64 r) = Ending.returned (.int .i64 (min (max n lo) hi)) := by rintro _ rfl; rfl
    exact ⟨key _ (by omega), rfl⟩
def RNewPost (n : Int) (w : World) (e : Ending) (w' : World) : Prop := ∃ (b room : Nat), (room : Int) = brI n 1 1000 ∧ e = .returned (.pointer (some ⟨b, 0, none⟩)) ∧ DT w.heap.size w' b room (.slice none 0 0) [] ∧ Below w.heap.size w w'
theorem rnew_any (n : Int) (w : World) : Calls Try.prog 8 #[.int .i64 n] w (RNewPost n w) := by
  obtain ⟨r, hr⟩ : ∃ r : Nat, brI n 1 1000 = r := ⟨(brI n 1 1000).toNat, by unfold brI; omega⟩
  have HR := Aside0.mk hr
  go_enter Try.func8, Try.ntmps8
  go_wp2_with fail
  refine (bring_any n 1 1000 (by decide) w).mono ?_
  rintro e w1 ⟨rfl, rfl⟩
  rw [hr]
  clear hr
  go_wp2
  go_ret
  exact ⟨w.heap.size, r, HR.out.symm, rfl, ⟨blk_new w _, own_nil _ _ _ _, by simp [Value.ownBlock], Nat.le_refl _⟩, below_alloc (Below.refl _ _) _⟩
section
variable {B b room : Nat} {w w1 : World} {v : Value} {L : List It} {S : Nat → Prop}
def atI (s : ByteArray) (L : List It) : Int := if pos s L < L.length then (pos s L : Nat) else -1
set_option maxHeartbeats 1000000 in
theorem at_any (s : ByteArray) (w : World) (h : DT B w b room v L) (hl : L.length ≤ 1000) : Calls Try.prog 15 #[.pointer (some ⟨b, 0, none⟩), .string s] w fun e w' => e = .returned (.int .i64 (atI s L)) ∧ w = w' := by
  obtain ⟨A, c, rfl, _⟩ := h.slice
  obtain ⟨n, hn⟩ : ∃ n, L.length = n := ⟨_, rfl⟩
  have H := Aside0.mk (And.intro h hn)
  have hbx := h.box
  rw [hn] at hbx hl
  have c1 : w.cell? ⟨b, 1, none⟩ = some (.slice A n c) := (blk_cell hbx 1).trans rfl
  clear h hn hbx
  go_enter Try.func15, Try.ntmps15
  go_wp2_with fail
  go_loopg [5] n (fun d x5 wr => ∃ (i : Nat), Aside0 (i + d = n ∧ i ≤ pos s L) ∧ x5 = .int .i64 i ∧ w = wr)
  case atStart => exact ⟨0, ⟨by omega, Nat.zero_le _⟩, rfl, rfl⟩
  case round =>
    obtain ⟨i, HI, rfl, rfl⟩ := hrel
    by_cases hlt : i < n
    · obtain ⟨g, rfl, a0, _⟩ := own_item H.out.1.row i (by rw [H.out.2]; exact hlt)
      obtain ⟨x, hx⟩ : ∃ x, (L.getD i ez).t = x := ⟨_, rfl⟩
      rw [hx] at a0
      have hli : (i : Int) < n := by omega
      by_cases he : x = s
      · have hq : (x.toList == s.toList) = true := by rw [he]; simp
        have HE : Aside0 (atI s L = i) := ⟨by
          have hp : pos s L = i := by
            by_cases hc : i < pos s L
            · exact absurd (hx.trans he) (pos_before s ez L i hc)
            · have := HI.out; omega
          unfold atI
          rw [hp, if_pos (by rw [H.out.2]; exact hlt)]⟩
        clear hx he
        go_wp2
        go_ret
        rw [HE.out]
        exact ⟨rfl, rfl⟩
      · have hq : (x.toList == s.toList) = false := beq_eq_false_iff_ne.2 (fun e => he (toList_inj e))
        have HE : Aside0 (i + 1 ≤ pos s L) := ⟨by
          by_cases hc : pos s L = i
          · have := pos_at s ez L (by rw [hc, H.out.2]; exact hlt)
            rw [hc, hx] at this
            exact absurd this he
          · have := HI.out; omega⟩
        clear hx he
        go_wp2
        go_roundg (gk - 1)
        case measure => have := HI.out; omega
        case rel => exact ⟨i + 1, ⟨by have := HI.out; omega, HE.out⟩, by go_num, rfl⟩
    · have hin : i = n := by have := HI.out; omega
      subst hin
      have HE : Aside0 (atI s L = -1) := ⟨by
        unfold atI
        have := pos_le s L
        rw [if_neg (by have := HI.out; have := H.out.2; omega)]⟩
      have hii : ¬ (i : Int) < i := by omega
      clear hlt
      go_wp2
      go_ret
      rw [HE.out]
      exact ⟨rfl, rfl⟩
end
end Go.Proofs.Ytfijbhacobjjgah
