/- Plain law of chapter 49: what is taken out of a heap is sorted; where each stands. -/
import Derived.Test.YtfijbhacobjjgahLaw49c
namespace Go.Proofs.Ytfijbhacobjjgah.Pl
open Go Go.Maps Go.Proofs.Ytfijbhacobjjgah.Hp
set_option linter.unusedSimpArgs false
set_option linter.unusedVariables false
/-- What was collected so far. -/
structure CO (L : List It) (left : Lit → Bool) (ss : List It) : Prop where
  sub : ∀ x ∈ ss, x ∈ L ∧ left (ks x.t) = false
  all : ∀ x ∈ L, left (ks x.t) = false → x ∈ ss
  nd : Ndp ss
theorem CO.start {D : DW} {L : List It} (h : Rel D L) : CO L (has D) [] := ⟨fun x hx => (by cases hx), fun x hx e => (by rw [(h.at_ x hx).1] at e; cases e), List.Pairwise.nil⟩
theorem CO.step {L : List It} {left : Lit → Bool} {ss : List It} (h : CO L left ss) (hn : Ndp L) {x : It} (hx : x ∈ L) (hl : left (ks x.t) = true) : CO L (fun z => left z && !z.sameKey (ks x.t)) (ss ++ [x]) := by
  have hself : (ks x.t).sameKey (ks x.t) = true := WideAt.sameKey_self (ks_key _)
  refine ⟨fun y hy => ?_, fun y hy e => ?_, ?_⟩
  · rcases List.mem_append.1 hy with hy | hy
    · obtain ⟨h1, h2⟩ := h.sub y hy
      exact ⟨h1, by simp [h2]⟩
    · simp at hy; subst hy
      exact ⟨hx, by simp [hself]⟩
  · by_cases e2 : y.t = x.t
    · have : y = x := by
        obtain ⟨i, hi, rfl⟩ := List.mem_iff_getElem.1 hy
        obtain ⟨j, hj, rfl⟩ := List.mem_iff_getElem.1 hx
        obtain rfl := ndp_get hn hi hj e2
        rfl
      subst this
      simp
    · have hne : ks y.t ≠ ks x.t := fun e3 => e2 (ks_inj e3)
      rw [sameKey_ne hne] at e
      simp at e
      exact List.mem_append_left _ (h.all y hy e)
  · unfold Ndp
    rw [List.pairwise_append]
    refine ⟨h.nd, List.pairwise_singleton _ _, fun y hy z hz => ?_⟩
    simp at hz; subst hz
    intro e
    have := (h.sub y hy).2
    rw [e, hl] at this
    cases this
theorem ndp_nodup {L : List It} (h : Ndp L) : L.Nodup := List.Pairwise.imp (fun hne e => hne (by rw [e])) h
theorem CO.done {L : List It} {left : Lit → Bool} {ss : List It} (h : CO L left ss) (hn : Ndp L) (hl : ∀ kl, left kl = false) : ss.Perm L :=
  (List.perm_ext_iff_of_nodup (ndp_nodup h.nd) (ndp_nodup hn)).2 fun x => ⟨fun hx => (h.sub x hx).1, fun hx => h.all x hx (hl _)⟩
theorem ndp_perm {L M : List It} (h : L.Perm M) (hn : Ndp M) : Ndp L := (h.pairwise_iff (fun {_ _} hne => Ne.symm hne)).2 hn
variable {ez : It}
/-- What was taken out of the heap so far. -/
structure PO (ez : It) (L o H : List It) : Prop where
  perm : (o ++ H).Perm L
  srt : o.Pairwise (fun x y => ilt x y = true)
  low : ∀ x ∈ o, ∀ y ∈ H, ilt x y = true
  heap : Heap ilt ez H 0 H.length
  nd : Ndp L
theorem PO.start {L H : List It} (hp : H.Perm L) (hh : Heap ilt ez H 0 H.length) (hn : Ndp L) : PO ez L [] H := ⟨by simpa using hp, List.Pairwise.nil, fun x hx => (by cases hx), hh, hn⟩
theorem PO.step {L o H : List It} (h : PO ez L o H) (hl : 0 < H.length) : PO ez L (o ++ [H.getD 0 ez]) (pop ilt ez H) ∧ (pop ilt ez H).length = H.length - 1 ∧ (down ilt ez (swp ez H 0 (H.length - 1)) 0 (H.length - 1)).getD (H.length - 1) ez = H.getD 0 ez := by
  obtain ⟨p1, p2, p3, p4⟩ := pop_ok ez ilt_ord (List.length_pos_iff.1 hl) h.heap
  obtain ⟨y, hy⟩ : ∃ y, H.getD 0 ez = y := ⟨_, rfl⟩
  rw [hy] at p2 p4 ⊢
  have hyH : y ∈ H := p2.mem_iff.1 (List.mem_cons_self ..)
  have hnd : Ndp (y :: pop ilt ez H) := by
    have h1 := ndp_perm h.perm h.nd
    have h2 : Ndp H := (List.pairwise_append.1 h1).2.1
    exact ndp_perm p2 h2
  refine ⟨⟨?_, ?_, ?_, by rw [p3]; exact p1, h.nd⟩, p3, p4⟩
  · rw [List.append_assoc]
    exact (List.Perm.append_left o p2).trans h.perm
  · rw [List.pairwise_append]
    exact ⟨h.srt, List.pairwise_singleton _ _, fun x hx z hz => by simp at hz; subst hz; exact h.low x hx _ hyH⟩
  · intro x hx z hz
    have hzH : z ∈ H := p2.mem_iff.1 (List.mem_cons_of_mem _ hz)
    rcases List.mem_append.1 hx with hx | hx
    · exact h.low x hx z hzH
    · simp at hx; subst hx
      obtain ⟨k, hk, e⟩ := List.mem_iff_getElem.1 hzH
      have h2 := heap_least ez ilt_ord h.heap k hk
      rw [List.getD_eq_getElem?_getD, List.getElem?_eq_getElem hk, e, hy] at h2
      simp only [Option.getD_some] at h2
      have hne := (List.pairwise_cons.1 hnd).1 z hz
      rcases ilt_tot x z with h3 | ⟨h3, _⟩ | h3
      · exact h3
      · exact absurd h3 hne
      · rw [h3] at h2; cases h2
theorem rank {L o R : List It} (hp : (o ++ R).Perm L) (hs : o.Pairwise (fun x y => ilt x y = true)) (hl : ∀ x ∈ o, ∀ y ∈ R, ilt x y = true) (i : Nat) (hi : i < o.length) : L.countP (fun y => ilt y o[i]) = i := by
  rw [← hp.countP_eq, List.countP_append]
  have hr : R.countP (fun y => ilt y o[i]) = 0 := List.countP_eq_zero.2 fun y hy e => by
    have := ilt_asym (hl o[i] (List.getElem_mem hi) y hy)
    rw [e] at this; cases this
  have ho : o.countP (fun y => ilt y o[i]) = i := by
    have hsp : o.countP (fun y => ilt y o[i]) = (o.take i).countP (fun y => ilt y o[i]) + (o.drop i).countP (fun y => ilt y o[i]) := by
      rw [← List.countP_append, List.take_append_drop]
    rw [hsp]
    have h1 : (o.take i).countP (fun y => ilt y o[i]) = i := by
      rw [List.countP_eq_length.2, List.length_take, Nat.min_eq_left (by omega)]
      intro y hy
      obtain ⟨j, hj, rfl⟩ := List.mem_iff_getElem.1 hy
      rw [List.length_take] at hj
      rw [List.getElem_take]
      exact List.pairwise_iff_getElem.1 hs j i (by omega) hi (by omega)
    have h2 : (o.drop i).countP (fun y => ilt y o[i]) = 0 := List.countP_eq_zero.2 fun y hy e => by
      obtain ⟨j, hj, rfl⟩ := List.mem_iff_getElem.1 hy
      rw [List.length_drop] at hj
      rw [List.getElem_drop] at e
      by_cases h0 : j = 0
      · subst h0
        simp only [Nat.add_zero] at e
        rw [ilt_irr] at e; cases e
      · have := ilt_asym (List.pairwise_iff_getElem.1 hs i (i + j) hi (by omega) (by omega))
        rw [e] at this; cases this
    rw [h1, h2, Nat.add_zero]
  rw [ho, hr, Nat.add_zero]
end Go.Proofs.Ytfijbhacobjjgah.Pl
