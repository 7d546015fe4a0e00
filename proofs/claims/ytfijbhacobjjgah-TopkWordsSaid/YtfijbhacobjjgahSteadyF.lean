/- The law for a region whose order is open, with what is told of a value hanging on what is done already. -/
import Derived.Test.YtfijbhacobjjgahSteadyT
namespace Go.Proofs.Ytfijbhacobjjgah.St
open Go Go.RowKit
/-- What is owed, one operation behind the other; 'ts l' is what is told of this one and those behind it, when 'l' is done. -/
def obsF (P : Program) (ops : Array Oper) (a : Act) (T : (Nat → Bool) → List Tell) (B : Nat → (Nat → Bool) → World → Prop) (R : Nat → World → World → Prop) : Nat → List Oper → List (List (Nat × Tmp)) → ((Nat → Bool) → List Tell) → Prop
  | i, o :: os, d :: ds, ts => (∀ l, l i = false → Ob P ops a (T l) (B i l) (R i) o d ((ts (upB l i)).headD tt)) ∧ obsF P ops a T B R (i + 1) os ds (fun l => (ts l).tail)
  | _, _, _, _ => True
theorem headD_getD (l : List Tell) : l.headD tt = l.getD 0 tt := by cases l <;> rfl
theorem tail_getD (l : List Tell) (k : Nat) : l.tail.getD k tt = l.getD (k + 1) tt := by cases l <;> simp
theorem obsF_get {P : Program} {ops : Array Oper} {a : Act} {T : (Nat → Bool) → List Tell} {B : Nat → (Nat → Bool) → World → Prop} {R : Nat → World → World → Prop} : ∀ (i : Nat) (os : List Oper) (ds : List (List (Nat × Tmp))) (ts : (Nat → Bool) → List Tell) (k : Nat) (o : Oper), ds.length = os.length → obsF P ops a T B R i os ds ts → os[k]? = some o →
    ∀ l, l (i + k) = false → Ob P ops a (T l) (B (i + k) l) (R (i + k)) o (ds.getD k []) ((ts (upB l (i + k))).getD k tt)
  | i, o :: os, d :: ds, ts, 0, _, _, h, hk => by
    simp only [List.getElem?_cons_zero, Option.some.injEq] at hk
    subst hk
    intro l hl
    have := h.1 l hl
    rw [headD_getD] at this
    exact this
  | i, o :: os, d :: ds, ts, k + 1, o', h1, h, hk => by
    have := obsF_get (i + 1) os ds _ k o' (by simpa using h1) h.2 (by simpa using hk)
    intro l hl
    rw [show i + 1 + k = i + (k + 1) by omega] at this
    have := this l hl
    rw [tail_getD] at this
    simpa using this
  | _, [], _, _, _, _, _, _, hk => by simp at hk
  | _, _ :: _, [], _, _, _, h1, _, _ => by simp at h1
section
variable {P : Program} {ops : Array Oper} {Q : Exit → Act → World → Prop} {id : Nat} {a : Act} {w : World}
/-- The world is told by flags of what is done. -/
theorem steadyF {n : Nat} (hm : P.follows .mixedOrders = true) (D : List (List (Nat × Tmp))) (E : List (Option Tmp)) (hok : okT ops D E = true) (T : (Nat → Bool) → List Tell) (hn : ∀ l, (T l).length = n) (hs : ops.size = n)
    (G : (Nat → Bool) → World → Prop) (R : Nat → World → World → Prop) (hst : ∀ (i j : Nat) (l : Nat → Bool), i < n → j < n → l i = false → l j = true → (∀ j k, l j = true → edge ops j k = true → l k = true) → ∀ ds v w w', (T l).getD j tt ds v w → R i w w' → (T (upB l i)).getD j tt ds v w') (h0 : G (fun _ => false) w.drew)
    (B : Nat → (Nat → Bool) → World → Prop) (hB : ∀ (i : Nat) (l : Nat → Bool) (w : World), i < ops.size → l i = false → (∀ j, edge ops i j = true → l j = true) → (∀ j k, l j = true → edge ops j k = true → l k = true) → G l w → B i l w)
    (hG : ∀ (i : Nat) (l : Nat → Bool) (w w' : World), i < ops.size → l i = false → (∀ j, edge ops i j = true → l j = true) → (∀ j k, l j = true → edge ops j k = true → l k = true) → G l w → R i w w' → G (upB l i) w')
    (hop : obsF P ops a T B R 0 ops.toList D T)
    (hend : ∀ l w, (∀ i, i < n → l i = true) → G l w → withE w (fun A => Q .normal A w) D E (T l) a []) : (Code.region id ops true).wp P Q a w := by
  subst hs
  obtain ⟨ok1, ok2, ok3, ok4⟩ := okT_parts hok
  refine steady hm ok1 (fun l vals w => G l w ∧ (∀ j k, l j = true → edge ops j k = true → l k = true) ∧ ∀ i, i < ops.size → l i = true → (T l).getD i tt ((D.getD i []).map fun p => vals p.1) (vals i) w) (fun _ => undef) ⟨h0, by simp, by simp⟩ ?_ ?_
  · intro i o ho l vals w hl hd ⟨hGw, hcl, hT⟩
    have hi : i < ops.size := (Array.getElem?_eq_some_iff.1 ho).1
    have hob := obsF_get 0 ops.toList D T i o (by simpa using ok2) hop (by simpa using ho)
    rw [Nat.zero_add] at hob
    have hob := hob l hl
    have hd' := withD_can (ops := ops) (vals := vals) (D.getD i []) a [] (fun p hp => by
      by_cases hiD : i < D.length
      · have hm : D.getD i [] ∈ D := by
          rw [List.getD_eq_getElem?_getD, List.getElem?_eq_getElem hiD]
          exact List.getElem_mem hiD
        refine ⟨ok4 _ hm p hp, ?_⟩
        have h3 := (ok_parts ok1).2 i hi
        have h4 := h3.2.2 p.1 (by
          rw [List.getD_eq_getElem?_getD, List.getElem?_map, List.getElem?_eq_getElem hiD] at *
          simp only [Option.map_some, Option.getD_some] at *
          exact List.mem_map.2 ⟨p, hp, rfl⟩)
        exact ⟨_, hT p.1 h4.1 (hd p.1 h4.2)⟩
      · rw [List.getD_eq_getElem?_getD, List.getElem?_eq_none (by omega)] at hp
        simp at hp) (hob w (hB i l w hi hl hd hcl hGw))
    have hcan : can ops (D.map (·.map (·.1))) vals i a = sel (dstOf ops) vals (fun _ => true) ((D.getD i []).map (·.1)) a := by
      unfold can
      congr 1
      rw [List.getD_eq_getElem?_getD, List.getD_eq_getElem?_getD, List.getElem?_map]
      cases D[i]? <;> rfl
    rw [hcan]
    rw [List.nil_append] at hd'
    unfold Does at hd'
    have hdm : ∀ k, k < ops.size → ∀ v, upB l i k = true → ((D.getD k []).map fun p => upV vals i v p.1) = (D.getD k []).map fun p => vals p.1 := by
      intro k hk v hlk
      refine List.map_congr_left fun p hp => ?_
      have hkp : edge ops k p.1 = true := by
        have h3 := (ok_parts ok1).2 k hk
        refine (h3.2.2 p.1 ?_).2
        by_cases hkD : k < D.length
        · rw [List.getD_eq_getElem?_getD, List.getElem?_map, List.getElem?_eq_getElem hkD]
          rw [List.getD_eq_getElem?_getD, List.getElem?_eq_getElem hkD] at hp
          simp only [Option.map_some, Option.getD_some] at *
          exact List.mem_map.2 ⟨p, hp, rfl⟩
        · rw [List.getD_eq_getElem?_getD, List.getElem?_eq_none (by omega)] at hp
          simp at hp
      have hpi : p.1 ≠ i := by
        intro e
        by_cases hki : k = i
        · subst hki
          have := hd k (e ▸ hkp)
          rw [this] at hl
          cases hl
        · have h4 : l k = true := by simpa [upB, hki] using hlk
          have := hcl k i h4 (e ▸ hkp)
          rw [this] at hl
          cases hl
      simp [upV, hpi]
    have hfin : ∀ v w', R i w w' → (T (upB l i)).getD i tt ((D.getD i []).map fun p => vals p.1) v w' → G (upB l i) w' ∧ (∀ j k, upB l i j = true → edge ops j k = true → upB l i k = true) ∧ ∀ k, k < ops.size → upB l i k = true → (T (upB l i)).getD k tt ((D.getD k []).map fun p => upV vals i v p.1) (upV vals i v k) w' := by
      intro v w' hR ht
      refine ⟨hG i l w w' hi hl hd hcl hGw hR, ?_, ?_⟩
      · intro j k hj hjk
        by_cases hki : k = i
        · simp [upB, hki]
        · by_cases hji : j = i
          · subst hji
            have := hd k hjk
            simp [upB, this]
          · have h4 : l j = true := by simpa [upB, hji] using hj
            have := hcl j k h4 hjk
            simp [upB, this]
      · intro k hk hlk
        rw [hdm k hk v hlk]
        by_cases hki : k = i
        · subst hki
          simpa [upV] using ht
        · have h4 : l k = true := by simpa [upB, hki] using hlk
          have h5 := hT k hk h4
          have h6 := hst i k l hi hk hl h4 hcl _ _ _ _ h5 hR
          simpa [upV, hki] using h6
    split
    · rename_i hw
      rw [if_pos hw] at hd'
      unfold Out at *
      generalize (execOp _ o).run P w = r at *
      cases r with
      | ok nx w' =>
        cases nx <;> simp only [] at hd' ⊢
        case value v => exact hfin v w' hd'.1 hd'.2
        case skip => exact hfin undef w' hd'.1 hd'.2
        case enter f args => exact Calls.mono hd' fun e w'' ⟨v, he, hR, ht⟩ => ⟨v, he, hfin v w'' hR ht⟩
      | halt x w' => simp only [] at hd'
    · rename_i hw
      rw [if_neg hw] at hd'
      exact hfin undef w hd'.1 hd'.2
  · intro l vals w hall ⟨hGw, _, hT⟩
    have h := withE_sel (f := dstOf ops) (vals := vals) D E (T l) 0 a (by rw [ok3]; simpa using hn l) (by rw [ok3]; simpa using ok2) (fun j hj => by
      have hj' : j < ops.size := by rw [ok3] at hj; simpa using hj
      rw [Nat.zero_add]
      refine ⟨?_, fun p hp => ?_, hT j hj' (hall j hj')⟩
      rotate_left
      · have h3 := (ok_parts ok1).2 j hj'
        have hjD : j < D.length := by omega
        have h4 := (h3.2.2 p.1 (by
          rw [List.getD_eq_getElem?_getD, List.getElem?_map, List.getElem?_eq_getElem hjD]
          rw [List.getD_eq_getElem?_getD, List.getElem?_eq_getElem hjD] at hp
          simp only [Option.map_some, Option.getD_some] at *
          exact List.mem_map.2 ⟨p, hp, rfl⟩)).2
        obtain ⟨o, ho, e, he, hbe, hon⟩ := edge_iff.1 h4
        have := h3.1 o ho e he hbe
        omega
      rw [ok3]
      simp [dstOf, hj']) (hend l w (by simpa [hn] using hall) hGw)
    have e : E.length = ops.size := by rw [ok3]; simp
    rw [e] at h
    rw [List.range_eq_range']
    exact h

end
end Go.Proofs.Ytfijbhacobjjgah.St
