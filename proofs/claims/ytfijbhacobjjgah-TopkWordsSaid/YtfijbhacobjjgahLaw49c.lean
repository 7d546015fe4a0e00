/- Plain law of chapter 49: halving a map, entry by entry, in whatever order. -/
import Derived.Test.YtfijbhacobjjgahLaw49b
namespace Go.Proofs.Ytfijbhacobjjgah.Pl
open Go Go.Maps
set_option linter.unusedSimpArgs false
set_option linter.unusedVariables false
/-- Those that are gone: met, and nothing left of them. -/
def gon (left : Lit → Bool) (L : List It) : Nat := (L.filter fun x => !left (ks x.t) && decide (x.c / 2 = 0)).length
structure HV (D : DW) (L : List It) (left : Lit → Bool) : Prop where
  tidy : Tidy D
  nd : Ndp L
  at1 : ∀ x ∈ L, left (ks x.t) = true → has D (ks x.t) = true ∧ ∀ z, D.atKey (ks x.t) z = vi x.c
  at2 : ∀ x ∈ L, left (ks x.t) = false → 0 < x.c / 2 → has D (ks x.t) = true ∧ ∀ z, D.atKey (ks x.t) z = vi (x.c / 2)
  at3 : ∀ x ∈ L, left (ks x.t) = false → x.c / 2 = 0 → has D (ks x.t) = false
  no : ∀ s, (∀ x ∈ L, x.t ≠ s) → has D (ks s) = false
  sz : size D + gon left L = L.length
theorem gon_flip {left : Lit → Bool} : ∀ {L : List It}, Ndp L → ∀ {x : It}, x ∈ L → left (ks x.t) = true → gon (fun z => left z && !z.sameKey (ks x.t)) L = gon left L + (if x.c / 2 = 0 then 1 else 0)
  | y :: r, hn, x, hx, hl => by
    obtain ⟨h1, h2⟩ := List.pairwise_cons.1 hn
    have hself : (ks x.t).sameKey (ks x.t) = true := WideAt.sameKey_self (ks_key _)
    by_cases e : y.t = x.t
    · have hyx : y = x := by
        rcases List.mem_cons.1 hx with rfl | hx
        · rfl
        · exact absurd e (h1 x hx)
      subst hyx
      have hr : ∀ z ∈ r, (ks z.t).sameKey (ks y.t) = false := fun z hz => sameKey_ne (fun e2 => h1 z hz (ks_inj e2).symm)
      have hfil : r.filter (fun z => !(left (ks z.t) && !(ks z.t).sameKey (ks y.t)) && decide (z.c / 2 = 0)) = r.filter (fun z => !left (ks z.t) && decide (z.c / 2 = 0)) := List.filter_congr (fun z hz => by rw [hr z hz]; simp)
      unfold gon
      rw [List.filter_cons, List.filter_cons]
      simp only [hfil, hself, hl]
      by_cases hc : y.c / 2 = 0 <;> simp [hc]
    · have hx' : x ∈ r := by
        rcases List.mem_cons.1 hx with rfl | hx
        · exact absurd rfl e
        · exact hx
      have hy : (ks y.t).sameKey (ks x.t) = false := sameKey_ne (fun e2 => e (ks_inj e2))
      have ih := gon_flip h2 hx' hl
      unfold gon at ih ⊢
      rw [List.filter_cons, List.filter_cons]
      dsimp only at ih
      simp only [hy, Bool.not_false, Bool.and_true]
      by_cases hc : (!left (ks y.t) && decide (y.c / 2 = 0)) = true
      · rw [if_pos (by simpa using hc), if_pos hc, List.length_cons, List.length_cons, ih]; omega
      · rw [if_neg (by simpa using hc), if_neg hc, ih]
theorem gon_end {left : Lit → Bool} (h : ∀ kl, left kl = false) : ∀ (L : List It), (∀ x ∈ L, 0 ≤ x.c) → gon left L + (halL L).length = L.length
  | [], _ => rfl
  | x :: r, hc => by
    have ih := gon_end h r (fun y hy => hc y (List.mem_cons_of_mem _ hy))
    have hx := hc x (List.mem_cons_self ..)
    rw [halL_cons]
    unfold gon at ih ⊢
    rw [List.filter_cons, h]
    by_cases e : x.c / 2 = 0
    · rw [if_neg (by omega : ¬ 0 < x.c / 2)]
      simp [e] at ih ⊢
      omega
    · rw [if_pos (by omega : 0 < x.c / 2)]
      simp [e] at ih ⊢
      omega
theorem gon_start (D : DW) (L : List It) (h : ∀ x ∈ L, has D (ks x.t) = true) : gon (has D) L = 0 := by
  unfold gon
  rw [List.length_eq_zero_iff, List.filter_eq_nil_iff]
  intro x hx
  rw [h x hx]
  simp
theorem HV.start {D : DW} {L : List It} (h : Rel D L) (ht : Tidy D) : HV D L (has D) :=
  ⟨ht, h.nd, fun x hx _ => h.at_ x hx, fun x hx e => (by rw [(h.at_ x hx).1] at e; cases e), fun x hx e => (by rw [(h.at_ x hx).1] at e; cases e), h.no, by rw [gon_start D L (fun x hx => (h.at_ x hx).1), h.sz]; rfl⟩
theorem HV.mem {D : DW} {L : List It} {left : Lit → Bool} (h : HV D L left) {s : ByteArray} {c : Int} (hat : ∀ z, D.atKey (ks s) z = vi c) (hl : left (ks s) = true) : ∃ x ∈ L, x.t = s ∧ x.c = c := by
  have hh : has D (ks s) = true := has_true_of_atKey hat
  have : ¬ ∀ x ∈ L, x.t ≠ s := fun hn => by rw [h.no s hn] at hh; cases hh
  simp only [Classical.not_forall, Decidable.not_not] at this
  obtain ⟨x, hx, e⟩ := this
  subst e
  have h1 := (h.at1 x hx hl).2 (vi 0)
  rw [hat] at h1
  simp at h1
  exact ⟨x, hx, rfl, h1.symm⟩
theorem HV.half {D : DW} {L : List It} {left : Lit → Bool} (h : HV D L left) {x : It} (hx : x ∈ L) (hl : left (ks x.t) = true) (hc : 0 < x.c / 2) : HV (D.put (ks x.t) (vi (x.c / 2))) L (fun z => left z && !z.sameKey (ks x.t)) := by
  have hm := h.tidy.isMap
  have hself : (ks x.t).sameKey (ks x.t) = true := WideAt.sameKey_self (ks_key _)
  have hx1 := h.at1 x hx hl
  refine ⟨h.tidy.put (ks_key _) _, h.nd, fun y hy e => ?_, fun y hy e hc2 => ?_, fun y hy e hc2 => ?_, fun s hs => ?_, ?_⟩
  · simp only [Bool.and_eq_true, Bool.not_eq_true'] at e
    have hne : ks y.t ≠ ks x.t := fun e2 => by rw [e2, hself] at e; exact absurd e.2 (by decide)
    rw [has_put_other hne]
    exact ⟨(h.at1 y hy e.1).1, fun z => by rw [atKey_put_other hne]; exact (h.at1 y hy e.1).2 z⟩
  · by_cases e2 : y.t = x.t
    · have : y = x := by
        obtain ⟨i, hi, rfl⟩ := List.mem_iff_getElem.1 hy
        obtain ⟨j, hj, rfl⟩ := List.mem_iff_getElem.1 hx
        obtain rfl := ndp_get h.nd hi hj e2
        rfl
      subst this
      exact ⟨has_put_same hm (ks_key _) _, fun z => atKey_put_same hm (ks_key _) _ _⟩
    · have hne : ks y.t ≠ ks x.t := fun e3 => e2 (ks_inj e3)
      rw [sameKey_ne hne] at e
      simp at e
      rw [has_put_other hne]
      exact ⟨(h.at2 y hy e hc2).1, fun z => by rw [atKey_put_other hne]; exact (h.at2 y hy e hc2).2 z⟩
  · by_cases e2 : y.t = x.t
    · have : y = x := by
        obtain ⟨i, hi, rfl⟩ := List.mem_iff_getElem.1 hy
        obtain ⟨j, hj, rfl⟩ := List.mem_iff_getElem.1 hx
        obtain rfl := ndp_get h.nd hi hj e2
        rfl
      subst this
      omega
    · have hne : ks y.t ≠ ks x.t := fun e3 => e2 (ks_inj e3)
      rw [sameKey_ne hne] at e
      simp at e
      rw [has_put_other hne]
      exact h.at3 y hy e hc2
  · have hne : ks s ≠ ks x.t := fun e => hs x hx (ks_inj e).symm
    rw [has_put_other hne]
    exact h.no s hs
  · rw [size_put h.tidy, hx1.1, if_pos rfl, gon_flip h.nd hx hl, if_neg (by omega)]
    exact h.sz
theorem HV.gone {D : DW} {L : List It} {left : Lit → Bool} (h : HV D L left) {x : It} (hx : x ∈ L) (hl : left (ks x.t) = true) (hc : x.c / 2 = 0) : HV ((D.put (ks x.t) (vi (x.c / 2))).del (ks x.t)) L (fun z => left z && !z.sameKey (ks x.t)) := by
  have hm := h.tidy.isMap
  have ht := h.tidy.put (ks_key x.t) (vi (x.c / 2))
  have hself : (ks x.t).sameKey (ks x.t) = true := WideAt.sameKey_self (ks_key _)
  have hx1 := h.at1 x hx hl
  refine ⟨ht.del _, h.nd, fun y hy e => ?_, fun y hy e hc2 => ?_, fun y hy e hc2 => ?_, fun s hs => ?_, ?_⟩
  · simp only [Bool.and_eq_true, Bool.not_eq_true'] at e
    have hne : ks y.t ≠ ks x.t := fun e2 => by rw [e2, hself] at e; exact absurd e.2 (by decide)
    rw [has_del_other hne, has_put_other hne]
    exact ⟨(h.at1 y hy e.1).1, fun z => by rw [atKey_del_other hne, atKey_put_other hne]; exact (h.at1 y hy e.1).2 z⟩
  · by_cases e2 : y.t = x.t
    · have : y = x := by
        obtain ⟨i, hi, rfl⟩ := List.mem_iff_getElem.1 hy
        obtain ⟨j, hj, rfl⟩ := List.mem_iff_getElem.1 hx
        obtain rfl := ndp_get h.nd hi hj e2
        rfl
      subst this
      omega
    · have hne : ks y.t ≠ ks x.t := fun e3 => e2 (ks_inj e3)
      rw [sameKey_ne hne] at e
      simp at e
      rw [has_del_other hne, has_put_other hne]
      exact ⟨(h.at2 y hy e hc2).1, fun z => by rw [atKey_del_other hne, atKey_put_other hne]; exact (h.at2 y hy e hc2).2 z⟩
  · by_cases e2 : y.t = x.t
    · rw [e2]; exact has_del_same
    · have hne : ks y.t ≠ ks x.t := fun e3 => e2 (ks_inj e3)
      rw [sameKey_ne hne] at e
      simp at e
      rw [has_del_other hne, has_put_other hne]
      exact h.at3 y hy e hc2
  · have hne : ks s ≠ ks x.t := fun e => hs x hx (ks_inj e).symm
    rw [has_del_other hne, has_put_other hne]
    exact h.no s hs
  · have h1 := size_del (k := ks x.t) ht
    rw [has_put_same hm (ks_key _), if_pos rfl, size_put h.tidy, hx1.1, if_pos rfl] at h1
    rw [gon_flip h.nd hx hl, if_pos hc]
    have := h.sz
    omega
theorem HV.done {D : DW} {L : List It} {left : Lit → Bool} (h : HV D L left) (hl : ∀ kl, left kl = false) (hc : ∀ x ∈ L, 0 ≤ x.c) : Rel D (halL L) := by
  refine ⟨halL_ndp h.nd, fun y hy => ?_, fun s hs => ?_, ?_⟩
  · obtain ⟨x, hx, rfl, h0⟩ := halL_mem.1 hy
    exact h.at2 x hx (hl _) h0
  · by_cases hn : ∀ x ∈ L, x.t ≠ s
    · exact h.no s hn
    · simp only [Classical.not_forall, Decidable.not_not] at hn
      obtain ⟨x, hx, rfl⟩ := hn
      have hz : x.c / 2 = 0 := by
        have := hc x hx
        by_cases h0 : 0 < x.c / 2
        · exact absurd rfl (hs ⟨x.t, x.c / 2⟩ (halL_mem.2 ⟨x, hx, rfl, h0⟩))
        · omega
      exact h.at3 x hx (hl _) hz
  · have := h.sz
    have := gon_end hl L hc
    omega
end Go.Proofs.Ytfijbhacobjjgah.Pl
