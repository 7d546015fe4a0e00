/- SchedOrder: the plain law: what comes out. -/
import Derived.Test.YtfijbhacobjjgagAwakeA
namespace Go.Proofs.Ytfijbhacobjjgag
open Go.RowKit Go.Proofs.YtfijbhacobjjgagW.PrintWords Go.Proofs.YtfijbhacobjjgagW.PrintLast Go.Proofs.YtfijbhacobjjgagW.PrintMore Go.Proofs.Ytfijbhacobjjgag.Fr
set_option linter.unusedVariables false
set_option linter.unusedSimpArgs false
attribute [local go_sem] max2_int min2_int max_two min_two

open Pl Hp
theorem putT0 (v : Int) : putT 0 v = min (max v 0) 1073741824 := by unfold putT brI; omega
structure MB (w : World) (gm n : Nat) (mt : List Bool) : Prop where
  blk : ∃ cur, w.heap[gm]? = some (.cells cur 4 (0, 0)) ∧ cur.size = n ∧ ∀ i, i < n → cur[i]? = some (.bool (mt.getD i false))
theorem MB.ch {w w1 : World} {gm n : Nat} {mt : List Bool} {S : Nat → Prop} (h : MB w gm n mt) (hc : Ch S w w1) (hs : ¬ S gm) : MB w1 gm n mt := by
  obtain ⟨cur, hh, h1, h2⟩ := h.blk
  exact ⟨cur, hc.blk hh hs, h1, h2⟩
theorem MB.cell {w : World} {gm n : Nat} {mt : List Bool} (h : MB w gm n mt) (i : Nat) (hi : i < n) : w.cell? ⟨gm, i, none⟩ = some (.bool (mt.getD i false)) ∧ w.frozen? ⟨gm, i, none⟩ = false := by
  obtain ⟨cur, hh, h1, h2⟩ := h.blk
  exact ⟨(blk_cell hh i).trans (h2 i hi), blk_frozen hh i⟩
theorem MB.set {w : World} {gm n : Nat} {mt : List Bool} (h : MB w gm n mt) (i : Nat) (hi : i < n) (hm : mt.length = n) : MB (w.setCell ⟨gm, i, none⟩ (.bool true)) gm n (mt.set i true) := by
  obtain ⟨cur, hh, h1, h2⟩ := h.blk
  refine ⟨_, blk_set hh i _, by simpa using h1, fun k hk => ?_⟩
  rw [Array.getElem?_setIfInBounds]
  by_cases e : i = k
  · subst e
    rw [if_pos rfl, if_pos (by omega), List.getD_eq_getElem?_getD, List.getElem?_set_self (by omega)]
    rfl
  · rw [if_neg e, List.getD_eq_getElem?_getD, List.getElem?_set, if_neg e, ← List.getD_eq_getElem?_getD]
    exact h2 k hk
theorem MB.made (W : World) (n : Nat) (hn : n ≤ 1000) : MB (W.alloc (.cells (madeCells #[.bool false] n) 4)) W.heap.size n (List.replicate n false) := by
  have h := own_made_of (enc := Value.bool) (d := false) W W.heap.size 4 n (Nat.le_refl _) (by omega)
  rcases h.2 with ⟨e, _⟩ | ⟨g, cap, cur, e, hb, hh, hn2, hc, hs, ht⟩
  · cases e
  · cases e
    refine ⟨cur, hh, by simpa using hs, fun i hi => ?_⟩
    have e1 : (cur.toList.take (n * 1))[i]? = (encs Value.bool (List.replicate n false))[i]? := by rw [ht]
    rw [List.getElem?_take, if_pos (by omega), Array.getElem?_toList] at e1
    rw [e1]
    simp [encs, List.getElem?_replicate, hi, List.getD_eq_getElem?_getD]
/-- The entry of the act that was put in as number i. -/
def entO (ls : List Int) (i : Nat) : E := ⟨putT 0 (ls.getD i 0), (i : Int) + 1, ⟨0, i, 0, false, ⟨#[]⟩⟩⟩
/-- Behind the first k: the list, the heap. -/
structure In (ls : List Int) (k : Nat) (H D : List E) : Prop where
  sch : Sch ez H D k
  mem : ∀ x ∈ D, ∃ i, i < k ∧ x = entO ls i
  len : H.length = k
theorem In.start (ls : List Int) : In ls 0 [] [] := ⟨Sch.new ez, (fun x hx => by cases hx), rfl⟩
theorem In.step {ls : List Int} {k : Nat} {H D : List E} (h : In ls k H D) : In ls (k + 1) (psh elt ez H (entO ls k)) (ins D (entO ls k)) := by
  have hs := h.sch.put (entO ls k) rfl
  refine ⟨hs, fun x hx => ?_, ?_⟩
  · rcases List.mem_cons.1 ((ins_perm D (entO ls k)).mem_iff.1 hx) with rfl | hx
    · exact ⟨k, by omega, rfl⟩
    · obtain ⟨i, hi, e⟩ := h.mem x hx
      exact ⟨i, by omega, e⟩
  · unfold psh
    have hz := (up_perm elt ez H.length (H ++ [entO ls k]) (by simp)).2
    rw [hz]; simp [h.len]
/-- While they come: what still waits, the last time, the last number, which have come. -/
structure Out (ls : List Int) (n : Nat) (D : List E) (last node : Int) (mt : List Bool) : Prop where
  mem : ∀ x ∈ D, ∃ i, i < n ∧ x = entO ls i
  srt : Srt D
  low : ∀ x ∈ D, last ≤ x.t ∧ (x.t = last → node ≤ x.a.nd)
  met : ∀ i, i < n → entO ls i ∈ D → mt.getD i false = false
  mlen : mt.length = n
theorem Out.start {ls : List Int} {n : Nat} {H D : List E} (h : In ls n H D) : Out ls n D 0 (-1) (List.replicate n false) := by
  refine ⟨h.mem, h.sch.srt, fun x hx => ?_, (fun i hi _ => by simp [List.getD_eq_getElem?_getD, List.getElem?_replicate, hi]), by simp⟩
  obtain ⟨i, hi, rfl⟩ := h.mem x hx
  refine ⟨?_, fun _ => ?_⟩
  · show 0 ≤ putT 0 _
    rw [putT0]; omega
  · show (-1 : Int) ≤ (i : Int)
    omega
theorem Out.step {ls : List Int} {n : Nat} {y : E} {r : List E} {last node : Int} {mt : List Bool} (h : Out ls n (y :: r) last node mt) :
    ∃ i, i < n ∧ y = entO ls i ∧ mt.getD i false = false ∧ last ≤ y.t ∧ (y.t = last → node ≤ i) ∧ Out ls n r y.t i (mt.set i true) := by
  obtain ⟨i, hi, hy⟩ := h.mem y (List.mem_cons_self ..)
  have hl := h.low y (List.mem_cons_self ..)
  have hp := List.pairwise_cons.1 h.srt
  refine ⟨i, hi, hy, h.met i hi (by rw [← hy]; exact List.mem_cons_self ..), hl.1, fun e => by have := hl.2 e; rw [hy] at this; exact this, ⟨fun x hx => h.mem x (List.mem_cons_of_mem _ hx), hp.2, fun x hx => ?_, fun j hj hx => ?_, by simp [h.mlen]⟩⟩
  · have he := (elt_iff y x).1 (hp.1 x hx)
    obtain ⟨j, hj, hxe⟩ := h.mem x (List.mem_cons_of_mem _ hx)
    have hyo : y.o = (i : Int) + 1 := by rw [hy]; rfl
    have hxo : x.o = (j : Int) + 1 := by rw [hxe]; rfl
    have hxn : x.a.nd = (j : Int) := by rw [hxe]; rfl
    refine ⟨by omega, fun e => by omega⟩
  · have hne : j ≠ i := by
      intro e
      subst e
      have he := (elt_iff y _).1 (hp.1 _ hx)
      rw [← hy] at he
      omega
    have hm := h.met j hj (List.mem_cons_of_mem _ hx)
    rw [List.getD_eq_getElem?_getD, List.getElem?_set, if_neg (Ne.symm hne), ← List.getD_eq_getElem?_getD]
    exact hm
end Go.Proofs.Ytfijbhacobjjgag
