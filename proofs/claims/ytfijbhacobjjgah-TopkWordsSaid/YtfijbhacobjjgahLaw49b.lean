/- Plain law of chapter 49: a table as a list of texts with counts; the map that reads alike. -/
import Derived.Test.YtfijbhacobjjgahLaw49
import Derived.Maps.OwnSet
namespace Go.Proofs.Ytfijbhacobjjgah.Pl
open Go Go.Maps
set_option linter.unusedSimpArgs false
set_option linter.unusedVariables false
abbrev DW := DataW Unit
abbrev ks (s : ByteArray) : Lit := .string s.data.toList
abbrev vi (c : Int) : DW := .lit (.int .i64 c)
theorem ks_inj {s t : ByteArray} (h : ks s = ks t) : s = t := by
  cases s; cases t
  simp [ks] at h
  subst h; rfl
theorem ks_key (s : ByteArray) : WideAt.IsKeyLit (ks s) := trivial
def brI (n lo hi : Int) : Int := min (max n lo) hi
/-- Where a text stands; behind the end where it doesn't. -/
def pos (s : ByteArray) : List It → Nat
  | [] => 0
  | x :: r => if x.t = s then 0 else pos s r + 1
theorem pos_le (s : ByteArray) : ∀ L : List It, pos s L ≤ L.length
  | [] => Nat.le_refl _
  | x :: r => by unfold pos; split; simp; have := pos_le s r; simp; omega
theorem pos_at (s : ByteArray) (d : It) : ∀ L : List It, pos s L < L.length → (L.getD (pos s L) d).t = s
  | [], h => by simp [pos] at h
  | x :: r, h => by
    unfold pos at h ⊢
    split
    · rename_i e; simpa using e
    · rename_i e
      rw [if_neg e] at h
      simpa using pos_at s d r (by simpa using h)
theorem pos_before (s : ByteArray) (d : It) : ∀ (L : List It) (i : Nat), i < pos s L → (L.getD i d).t ≠ s
  | [], i, h => by simp [pos] at h
  | x :: r, i, h => by
    unfold pos at h
    split at h
    · omega
    · rename_i e
      cases i with
      | zero => simpa using e
      | succ i => simpa using pos_before s d r i (by omega)
theorem pos_none {s : ByteArray} {L : List It} (d : It) (h : pos s L = L.length) : ∀ x ∈ L, x.t ≠ s := by
  intro x hx
  obtain ⟨i, hi, e⟩ := List.mem_iff_getElem.1 hx
  have := pos_before s d L i (by omega)
  rw [List.getD_eq_getElem?_getD, List.getElem?_eq_getElem hi, e] at this
  exact this
/-- No text stands twice. -/
def Ndp (L : List It) : Prop := L.Pairwise (fun x y => x.t ≠ y.t)
theorem ndp_get {L : List It} (h : Ndp L) {i j : Nat} (hi : i < L.length) (hj : j < L.length) (e : L[i].t = L[j].t) : i = j := by
  rcases Nat.lt_trichotomy i j with k | k | k
  · exact absurd e (List.pairwise_iff_getElem.1 h i j hi hj k)
  · exact k
  · exact absurd e.symm (List.pairwise_iff_getElem.1 h j i hj hi k)
theorem pos_is {s : ByteArray} {L : List It} (h : Ndp L) {i : Nat} (hi : i < L.length) (e : L[i].t = s) : pos s L = i := by
  have h1 : pos s L ≤ i := by
    by_cases hc : pos s L ≤ i
    · exact hc
    · have := pos_before s L[i] L i (by omega)
      rw [List.getD_eq_getElem?_getD, List.getElem?_eq_getElem hi] at this
      exact absurd e this
  have h2 := pos_at s L[i] L (by omega)
  rw [List.getD_eq_getElem?_getD, List.getElem?_eq_getElem (by omega)] at h2
  exact ndp_get h (by omega) hi (h2.trans e.symm)
/-- The map reads as the list. -/
structure Rel (D : DW) (L : List It) : Prop where
  nd : Ndp L
  at_ : ∀ x ∈ L, has D (ks x.t) = true ∧ ∀ z, D.atKey (ks x.t) z = vi x.c
  no : ∀ s, (∀ x ∈ L, x.t ≠ s) → has D (ks s) = false
  sz : size D = L.length
theorem Rel.nil : Rel (.map []) [] := ⟨List.Pairwise.nil, fun x hx => (by cases hx), fun s _ => rfl, rfl⟩
theorem Rel.has {D : DW} {L : List It} (h : Rel D L) (s : ByteArray) : has D (ks s) = decide (pos s L < L.length) := by
  by_cases hp : pos s L < L.length
  · rw [decide_eq_true hp]
    have := (h.at_ _ (List.getElem_mem hp)).1
    have e := pos_at s (L[pos s L]) L hp
    rw [List.getD_eq_getElem?_getD, List.getElem?_eq_getElem hp] at e
    simp only [Option.getD_some] at e
    rwa [e] at this
  · rw [decide_eq_false hp]
    exact h.no s (pos_none ⟨⟨#[]⟩, 0⟩ (by have := pos_le s L; omega))
/-- What stands at a text. -/
def cnt (s : ByteArray) (L : List It) : Int := if pos s L < L.length then (L.getD (pos s L) ⟨⟨#[]⟩, 0⟩).c else 0
theorem Rel.cnt {D : DW} {L : List It} (h : Rel D L) (s : ByteArray) : D.atKey (ks s) (vi 0) = vi (cnt s L) := by
  unfold Pl.cnt
  by_cases hp : pos s L < L.length
  · rw [if_pos hp]
    have := (h.at_ _ (List.getElem_mem hp)).2 (vi 0)
    have e := pos_at s (L[pos s L]) L hp
    rw [List.getD_eq_getElem?_getD, List.getElem?_eq_getElem hp] at e ⊢
    simp only [Option.getD_some] at e ⊢
    rwa [e] at this
  · rw [if_neg hp]
    exact atKey_of_not_has (by rw [h.has, decide_eq_false hp]) _
theorem Rel.isMap {D : DW} {L : List It} (h : Tidy D) : IsMap D := h.isMap
/-- A text that is there has another count. -/
theorem Rel.over {D : DW} {L : List It} (h : Rel D L) (ht : Tidy D) {i : Nat} (hi : i < L.length) (c : Int) : Rel (D.put (ks L[i].t) (vi c)) (L.set i ⟨L[i].t, c⟩) := by
  have hm := ht.isMap
  have hget : ∀ j (hj : j < (L.set i ⟨L[i].t, c⟩).length), (L.set i ⟨L[i].t, c⟩)[j].t = (L[j]'(by simpa using hj)).t := fun j hj => by
    rw [List.getElem_set]
    split
    · rename_i e; subst e; rfl
    · rfl
  refine ⟨?_, fun x hx => ?_, fun s hs => ?_, ?_⟩
  · unfold Ndp
    rw [List.pairwise_iff_getElem]
    intro a b ha hb hab
    rw [hget, hget]
    exact List.pairwise_iff_getElem.1 h.nd a b (by simpa using ha) (by simpa using hb) hab
  · obtain ⟨j, hj, rfl⟩ := List.mem_iff_getElem.1 hx
    have hj' : j < L.length := by simpa using hj
    by_cases e : i = j
    · subst e
      rw [List.getElem_set_self]
      exact ⟨has_put_same hm (ks_key _) _, fun z => atKey_put_same hm (ks_key _) _ _⟩
    · rw [List.getElem_set_ne e]
      have hne : ks L[j].t ≠ ks L[i].t := fun e2 => e (ndp_get h.nd hi hj' (ks_inj e2.symm))
      have := h.at_ _ (List.getElem_mem hj')
      exact ⟨by rw [has_put_other hne]; exact this.1, fun z => by rw [atKey_put_other hne]; exact this.2 z⟩
  · have hne : ks s ≠ ks L[i].t := fun e => by
      have := hs _ (List.getElem_mem (by simpa using hi : i < (L.set i ⟨L[i].t, c⟩).length))
      rw [hget i (by simpa using hi)] at this
      exact this (ks_inj e.symm)
    rw [has_put_other hne]
    refine h.no s fun x hx e => ?_
    obtain ⟨j, hj, rfl⟩ := List.mem_iff_getElem.1 hx
    have := hs _ (List.getElem_mem (by simpa using hj : j < (L.set i ⟨L[i].t, c⟩).length))
    rw [hget j (by simpa using hj)] at this
    exact this e
  · rw [size_put ht, (h.at_ _ (List.getElem_mem hi)).1, if_pos rfl, h.sz, List.length_set]
/-- A text more. -/
theorem Rel.more {D : DW} {L : List It} (h : Rel D L) (ht : Tidy D) {s : ByteArray} (hs : pos s L = L.length) (c : Int) : Rel (D.put (ks s) (vi c)) (L ++ [⟨s, c⟩]) := by
  have hm := ht.isMap
  have hno := pos_none ⟨⟨#[]⟩, 0⟩ hs
  refine ⟨?_, fun x hx => ?_, fun u hu => ?_, ?_⟩
  · unfold Ndp
    rw [List.pairwise_append]
    exact ⟨h.nd, List.pairwise_singleton _ _, fun x hx y hy => by simp at hy; subst hy; exact hno x hx⟩
  · rcases List.mem_append.1 hx with hx | hx
    · have hne : ks x.t ≠ ks s := fun e => hno x hx (ks_inj e)
      have := h.at_ x hx
      exact ⟨by rw [has_put_other hne]; exact this.1, fun z => by rw [atKey_put_other hne]; exact this.2 z⟩
    · simp at hx; subst hx
      exact ⟨has_put_same hm (ks_key _) _, fun z => atKey_put_same hm (ks_key _) _ _⟩
  · have hne : ks u ≠ ks s := fun e => (hu ⟨s, c⟩ (by simp)) (ks_inj e).symm
    rw [has_put_other hne]
    exact h.no u fun x hx => hu x (by simp [hx])
  · rw [size_put ht, h.has, decide_eq_false (by omega), h.sz]; simp
/-- A text is added. -/
def addC (c wt : Int) : Int := brI (c + brI wt 0 1048576) 0 1099511627776
def addL (room : Nat) (s : ByteArray) (wt : Int) (L : List It) : List It × Bool :=
  if pos s L < L.length then (L.set (pos s L) ⟨s, addC (cnt s L) wt⟩, true) else if L.length < room then (L ++ [⟨s, addC 0 wt⟩], true) else (L, false)
/-- What holds of a table. -/
structure WL (room : Nat) (L : List It) : Prop where
  nd : Ndp L
  len : L.length ≤ room
  cs : ∀ x ∈ L, 0 ≤ x.c ∧ x.c ≤ 1099511627776
theorem WL.cnt {room : Nat} {L : List It} (h : WL room L) (s : ByteArray) : 0 ≤ cnt s L ∧ cnt s L ≤ 1099511627776 := by
  unfold Pl.cnt
  split
  · rename_i hp
    have := h.cs _ (List.getElem_mem hp)
    rw [List.getD_eq_getElem?_getD, List.getElem?_eq_getElem hp]
    exact this
  · omega
theorem addC_bd (c wt : Int) : 0 ≤ addC c wt ∧ addC c wt ≤ 1099511627776 := by unfold addC brI; omega
theorem addC_min {c wt : Int} (h : 0 ≤ c) : addC c wt = min (c + brI wt 0 1048576) 1099511627776 := by unfold addC brI; omega
theorem WL.nil (room : Nat) : WL room [] := ⟨List.Pairwise.nil, by simp, fun x hx => (by cases hx)⟩
theorem WL.add {room : Nat} {L : List It} (h : WL room L) (s : ByteArray) (wt : Int) : WL room (addL room s wt L).1 := by
  unfold addL
  split
  · rename_i hp
    have e := pos_at s (L[pos s L]) L hp
    rw [List.getD_eq_getElem?_getD, List.getElem?_eq_getElem hp] at e
    simp only [Option.getD_some] at e
    refine ⟨?_, by simpa using h.len, fun x hx => ?_⟩
    · unfold Ndp
      rw [List.pairwise_iff_getElem]
      intro a b ha hb hab
      have := List.pairwise_iff_getElem.1 h.nd a b (by simpa using ha) (by simpa using hb) hab
      rw [List.getElem_set, List.getElem_set]
      by_cases h1 : pos s L = a
      · have h2 : ¬ pos s L = b := by omega
        rw [if_pos h1, if_neg h2]
        have e2 : L[a].t = s := by have e3 := e; simp only [h1] at e3; exact e3
        rw [e2] at this
        exact this
      · rw [if_neg h1]
        by_cases h2 : pos s L = b
        · rw [if_pos h2]
          have e2 : L[b].t = s := by have e3 := e; simp only [h2] at e3; exact e3
          rw [e2] at this
          exact this
        · rw [if_neg h2]
          exact this
    · rcases List.mem_or_eq_of_mem_set hx with hx | rfl
      · exact h.cs x hx
      · exact addC_bd _ _
  · rename_i hp
    split
    · rename_i hr
      have hno := pos_none (s := s) (L := L) ⟨⟨#[]⟩, 0⟩ (by have := pos_le s L; omega)
      refine ⟨?_, by simp; omega, fun x hx => ?_⟩
      · unfold Ndp
        rw [List.pairwise_append]
        exact ⟨h.nd, List.pairwise_singleton _ _, fun x hx y hy => by simp at hy; subst hy; exact hno x hx⟩
      · rcases List.mem_append.1 hx with hx | hx
        · exact h.cs x hx
        · simp at hx; subst hx; exact addC_bd _ _
    · exact h
theorem Rel.add {D : DW} {L : List It} (room : Nat) (h : Rel D L) (ht : Tidy D) (s : ByteArray) (wt : Int) (hok : (addL room s wt L).2 = true) : Rel (D.put (ks s) (vi (addC (Pl.cnt s L) wt))) (addL room s wt L).1 := by
  unfold addL at hok ⊢
  split
  · rename_i hp
    have e := pos_at s (L[pos s L]) L hp
    rw [List.getD_eq_getElem?_getD, List.getElem?_eq_getElem hp] at e
    simp only [Option.getD_some] at e
    have := h.over ht hp (addC (Pl.cnt s L) wt)
    rw [e] at this
    exact this
  · rename_i hp
    rw [if_neg hp] at hok
    split
    · have hc : Pl.cnt s L = 0 := by unfold Pl.cnt; rw [if_neg hp]
      rw [hc]
      exact h.more ht (by have := pos_le s L; omega) _
    · rename_i hr
      rw [if_neg hr] at hok
      cases hok
/-- All counts are halved; none stays that has nothing. -/
def halL (L : List It) : List It := (L.map fun x => ⟨x.t, x.c / 2⟩).filter fun x => decide (0 < x.c)
theorem halL_cons (x : It) (r : List It) : halL (x :: r) = if 0 < x.c / 2 then ⟨x.t, x.c / 2⟩ :: halL r else halL r := by
  unfold halL
  by_cases h : 0 < x.c / 2
  · simp [h]
  · simp [h]
theorem halL_snoc (L : List It) (x : It) : halL (L ++ [x]) = if 0 < x.c / 2 then halL L ++ [⟨x.t, x.c / 2⟩] else halL L := by
  unfold halL
  by_cases h : 0 < x.c / 2
  · simp [h]
  · simp [h]
theorem halL_len (L : List It) : (halL L).length ≤ L.length := by
  unfold halL
  exact Nat.le_trans (List.length_filter_le _ _) (by simp)
theorem halL_mem {L : List It} {y : It} : y ∈ halL L ↔ ∃ x ∈ L, y = ⟨x.t, x.c / 2⟩ ∧ 0 < x.c / 2 := by
  unfold halL
  simp only [List.mem_filter, List.mem_map, decide_eq_true_eq]
  constructor
  · rintro ⟨⟨x, hx, rfl⟩, h⟩; exact ⟨x, hx, rfl, h⟩
  · rintro ⟨x, hx, rfl, h⟩; exact ⟨⟨x, hx, rfl⟩, h⟩
theorem halL_ndp {L : List It} (h : Ndp L) : Ndp (halL L) := by
  unfold halL Ndp
  refine List.Pairwise.filter _ ?_
  rw [List.pairwise_map]
  exact h
theorem WL.half {room : Nat} {L : List It} (h : WL room L) : WL room (halL L) :=
  ⟨halL_ndp h.nd, Nat.le_trans (halL_len L) h.len, fun y hy => by
    obtain ⟨x, hx, rfl, h0⟩ := halL_mem.1 hy
    have := h.cs x hx
    simp only
    omega⟩
end Go.Proofs.Ytfijbhacobjjgah.Pl
