/- The law for a region whose order is open, in the form in which a walk uses it: what each operation yields is told by a list, operation by operation. -/
import Derived.Test.YtfijbhacobjjgahSteady
import Derived.Below
namespace Go.Proofs.Ytfijbhacobjjgah.St
open Go Go.RowKit
/-- What is told of an operation's value: of the values that it hangs on (in the order of its list), of its own value, of the world. -/
abbrev Tell := List Value → Value → World → Prop
def tt : Tell := fun _ _ _ => True
/-- The value is this one. -/
def eqT (c : Value) : Tell := fun _ v _ => v = c

def withD (T : List Tell) (w : World) (k : Act → List Value → Prop) : List (Nat × Tmp) → Act → List Value → Prop
  | [], a, vs => k a vs
  | (j, s) :: r, a, vs => ∀ v, (∃ ds, T.getD j tt ds v w) → withD T w k r (a.put (some s) v) (vs ++ [v])
def withE (w : World) (k : Act → Prop) : List (List (Nat × Tmp)) → List (Option Tmp) → List Tell → Act → List Value → Prop
  | q :: qs, d :: ds, t :: ts, a, vs => ∀ v, t (q.map fun p => vs.getD p.1 undef) v w → withE w k qs ds ts (a.put d v) (vs ++ [v])
  | _, _, _, a, _ => k a
theorem withE_nil (w : World) (k : Act → Prop) (a : Act) (vs : List Value) : withE w k [] [] [] a vs = k a := rfl
/-- One operation, wanted or not, does so much. -/
def Does (P : Program) (ops : Array Oper) (o : Oper) (A : Act) (w : World) (X : Value → World → Prop) (Y : Prop) : Prop := if Region.wanted o (yielded ops A.tmps) = true then Out P A.eval o w X else Y
/-- What is owed of one operation. -/
def Ob (P : Program) (ops : Array Oper) (a : Act) (T : List Tell) (B : World → Prop) (R : World → World → Prop) (o : Oper) (d : List (Nat × Tmp)) (t : Tell) : Prop :=
  ∀ w, B w → withD T w (fun A vs => Does P ops o A w (fun v w' => R w w' ∧ t vs v w') (R w w ∧ t vs undef w)) d a []
def obs (P : Program) (ops : Array Oper) (a : Act) (T : List Tell) (B : Nat → World → Prop) (R : Nat → World → World → Prop) : Nat → List Oper → List (List (Nat × Tmp)) → List Tell → Prop
  | i, o :: os, d :: ds, t :: ts => Ob P ops a T (B i) (R i) o d t ∧ obs P ops a T B R (i + 1) os ds ts
  | _, _, _, _ => True

theorem withD_can {ops : Array Oper} {T : List Tell} {w : World} {k : Act → List Value → Prop} {vals : Nat → Value} : ∀ (d : List (Nat × Tmp)) (a : Act) (vs : List Value), (∀ p ∈ d, dstOf ops p.1 = some p.2 ∧ ∃ ds, T.getD p.1 tt ds (vals p.1) w) → withD T w k d a vs →
    k (sel (dstOf ops) vals (fun _ => true) (d.map (·.1)) a) (vs ++ d.map fun p => vals p.1)
  | [], _, _, _, h => by simpa [withD, sel] using h
  | (j, s) :: r, a, vs, hp, h => by
    have h1 := hp (j, s) (List.mem_cons_self ..)
    have h2 := withD_can r (a.put (some s) (vals j)) (vs ++ [vals j]) (fun p hm => hp p (List.mem_cons_of_mem _ hm)) (h _ h1.2)
    simpa [sel, h1.1, List.append_assoc] using h2
theorem getD_vals (vals : Nat → Value) (i k : Nat) (h : k < i) : ((List.range i).map vals).getD k undef = vals k := by
  simp [List.getD_eq_getElem?_getD, h]
theorem withE_sel {f : Nat → Option Tmp} {w : World} {k : Act → Prop} {vals : Nat → Value} : ∀ (qs : List (List (Nat × Tmp))) (ds : List (Option Tmp)) (ts : List Tell) (i : Nat) (a : Act), ts.length = ds.length → qs.length = ds.length → (∀ j, j < ds.length → f (i + j) = ds.getD j none ∧ (∀ p ∈ qs.getD j [], p.1 < i + j) ∧ ts.getD j tt ((qs.getD j []).map fun p => vals p.1) (vals (i + j)) w) → withE w k qs ds ts a ((List.range i).map vals) →
    k (sel f vals (fun _ => true) (List.range' i ds.length) a)
  | [], [], [], _, _, _, _, _, h => h
  | q :: qs, d :: ds, t :: ts, i, a, hl, hq, hp, h => by
    have h1 := hp 0 (by simp)
    simp only [Nat.add_zero, List.getD_cons_zero] at h1
    obtain ⟨h1a, h1b, h1c⟩ := h1
    have e : (q.map fun p => ((List.range i).map vals).getD p.1 undef) = q.map fun p => vals p.1 := List.map_congr_left fun p hm => getD_vals vals i p.1 (h1b p hm)
    have h0 := h (vals i) (by rw [e]; exact h1c)
    have e2 : (List.range i).map vals ++ [vals i] = (List.range (i + 1)).map vals := by simp [List.range_succ]
    rw [e2] at h0
    have h2 := withE_sel (f := f) (vals := vals) qs ds ts (i + 1) (a.put d (vals i)) (by simpa using hl) (by simpa using hq) (fun j hj => by
      have := hp (j + 1) (by simpa using hj)
      simp only [List.getD_cons_succ] at this
      rw [show i + 1 + j = i + (j + 1) by omega]
      exact this) h0
    simp only [List.length_cons, List.range'_succ, sel, if_true, h1a]
    exact h2
  | _, [], _ :: _, _, _, hl, _, _, _ => by simp at hl
  | _, _ :: _, [], _, _, hl, _, _, _ => by simp at hl
  | _ :: _, [], _, _, _, _, hq, _, _ => by simp at hq
  | [], _ :: _, _, _, _, _, hq, _, _ => by simp at hq
theorem obs_get {P : Program} {ops : Array Oper} {a : Act} {T : List Tell} {B : Nat → World → Prop} {R : Nat → World → World → Prop} : ∀ (i : Nat) (os : List Oper) (ds : List (List (Nat × Tmp))) (ts : List Tell) (k : Nat) (o : Oper), ds.length = os.length → ts.length = os.length → obs P ops a T B R i os ds ts → os[k]? = some o →
    Ob P ops a T (B (i + k)) (R (i + k)) o (ds.getD k []) (ts.getD k tt)
  | i, o :: os, d :: ds, t :: ts, 0, _, _, _, h, hk => by
    simp only [List.getElem?_cons_zero, Option.some.injEq] at hk
    subst hk
    exact h.1
  | i, o :: os, d :: ds, t :: ts, k + 1, o', h1, h2, h, hk => by
    have := obs_get (i + 1) os ds ts k o' (by simpa using h1) (by simpa using h2) h.2 (by simpa using hk)
    rw [show i + 1 + k = i + (k + 1) by omega] at this
    simpa using this
  | _, [], _, _, _, _, _, _, _, hk => by simp at hk
  | _, _ :: _, [], _, _, _, h1, _, _, _ => by simp at h1
  | _, _ :: _, _ :: _, [], _, _, _, h2, _, _ => by simp at h2

/-- What is told of the values so far holds on. -/
def sts (Rel : Nat → World → World → Prop) : Nat → List Tell → Prop
  | i, t :: ts => (∀ ds v w w', t ds v w → Rel i w w' → t ds v w') ∧ sts Rel (i + 1) ts
  | _, [] => True
theorem sts_get {Rel : Nat → World → World → Prop} : ∀ (i : Nat) (ts : List Tell) (j : Nat), j < ts.length → sts Rel i ts → ∀ ds v w w', ts.getD j tt ds v w → Rel (i + j) w w' → ts.getD j tt ds v w'
  | i, t :: ts, 0, _, h => h.1
  | i, t :: ts, j + 1, hj, h => by
    have := sts_get (i + 1) ts j (by simpa using hj) h.2
    rw [show i + 1 + j = i + (j + 1) by omega] at this
    simpa using this
  | _, [], _, hj, _ => by simp at hj
theorem eqT_st {c : Value} {Rel : World → World → Prop} : ∀ ds v w w', eqT c ds v w → Rel w w' → eqT c ds v w' := fun _ _ _ _ h _ => h

/-- The check by the kernel. -/
def okT (ops : Array Oper) (D : List (List (Nat × Tmp))) (E : List (Option Tmp)) : Bool :=
  okB ops (D.map (·.map (·.1))) && D.length == ops.size && E == ops.toList.map (·.dst) && D.all (fun d => d.all fun p => dstOf ops p.1 == some p.2)
theorem okT_parts {ops : Array Oper} {D : List (List (Nat × Tmp))} {E : List (Option Tmp)} (h : okT ops D E = true) :
    okB ops (D.map (·.map (·.1))) = true ∧ D.length = ops.size ∧ E = ops.toList.map (·.dst) ∧ ∀ d ∈ D, ∀ p ∈ d, dstOf ops p.1 = some p.2 := by
  unfold okT at h
  simp only [Bool.and_eq_true, beq_iff_eq, List.all_eq_true] at h
  exact ⟨h.1.1.1, h.1.1.2, h.1.2, h.2⟩

section
variable {P : Program} {ops : Array Oper} {Q : Exit → Act → World → Prop} {id : Nat} {a : Act} {w : World}

/-- The world is told by flags of what is done. -/
theorem steadyG {n : Nat} (hm : P.follows .mixedOrders = true) (D : List (List (Nat × Tmp))) (E : List (Option Tmp)) (hok : okT ops D E = true) (T : List Tell) (hn : T.length = n) (hs : ops.size = n)
    (G : (Nat → Bool) → World → Prop) (R : Nat → World → World → Prop) (hst : ∀ (i j : Nat) (l : Nat → Bool), i < n → j < n → l i = false → l j = true → (∀ j k, l j = true → edge ops j k = true → l k = true) → ∀ ds v w w', T.getD j tt ds v w → R i w w' → T.getD j tt ds v w') (h0 : G (fun _ => false) w.drew)
    (B : Nat → World → Prop) (hB : ∀ (i : Nat) (l : Nat → Bool) (w : World), i < ops.size → l i = false → (∀ j, edge ops i j = true → l j = true) → (∀ j k, l j = true → edge ops j k = true → l k = true) → G l w → B i w)
    (hG : ∀ (i : Nat) (l : Nat → Bool) (w w' : World), i < ops.size → l i = false → (∀ j, edge ops i j = true → l j = true) → (∀ j k, l j = true → edge ops j k = true → l k = true) → G l w → R i w w' → G (upB l i) w')
    (hop : obs P ops a T B R 0 ops.toList D T)
    (hend : ∀ l w, (∀ i, i < n → l i = true) → G l w → withE w (fun A => Q .normal A w) D E T a []) : (Code.region id ops true).wp P Q a w := by
  subst hs
  obtain ⟨ok1, ok2, ok3, ok4⟩ := okT_parts hok
  refine steady hm ok1 (fun l vals w => G l w ∧ (∀ j k, l j = true → edge ops j k = true → l k = true) ∧ ∀ i, i < ops.size → l i = true → T.getD i tt ((D.getD i []).map fun p => vals p.1) (vals i) w) (fun _ => undef) ⟨h0, by simp, by simp⟩ ?_ ?_
  · intro i o ho l vals w hl hd ⟨hGw, hcl, hT⟩
    have hi : i < ops.size := (Array.getElem?_eq_some_iff.1 ho).1
    have hob := obs_get 0 ops.toList D T i o (by simpa using ok2) (by simpa using hn) hop (by simpa using ho)
    rw [Nat.zero_add] at hob
    have hd' := withD_can (ops := ops) (vals := vals) (D.getD i []) a [] (fun p hp => by
      by_cases hiD : i < D.length
      · have hm : D.getD i [] ∈ D := by
          rw [List.getD_eq_getElem?_getD, List.getElem?_eq_getElem hiD]
          exact List.getElem_mem hiD
        refine ⟨ok4 _ hm p hp, ?_⟩
        have h3 := (ok_parts ok1).2 i hi
        have h4 := h3.2.2 p.1 (by
          rw [List.getD_eq_getElem?_getD, List.getElem?_map, List.getElem?_eq_getElem hiD] at *
          simp only [Option.map_some, Option.getD_some] at *
          exact List.mem_map.2 ⟨p, hp, rfl⟩)
        exact ⟨_, hT p.1 h4.1 (hd p.1 h4.2)⟩
      · rw [List.getD_eq_getElem?_getD, List.getElem?_eq_none (by omega)] at hp
        simp at hp) (hob w (hB i l w hi hl hd hcl hGw))
    have hcan : can ops (D.map (·.map (·.1))) vals i a = sel (dstOf ops) vals (fun _ => true) ((D.getD i []).map (·.1)) a := by
      unfold can
      congr 1
      rw [List.getD_eq_getElem?_getD, List.getD_eq_getElem?_getD, List.getElem?_map]
      cases D[i]? <;> rfl
    rw [hcan]
    rw [List.nil_append] at hd'
    unfold Does at hd'
    have hdm : ∀ k, k < ops.size → ∀ v, upB l i k = true → ((D.getD k []).map fun p => upV vals i v p.1) = (D.getD k []).map fun p => vals p.1 := by
      intro k hk v hlk
      refine List.map_congr_left fun p hp => ?_
      have hkp : edge ops k p.1 = true := by
        have h3 := (ok_parts ok1).2 k hk
        refine (h3.2.2 p.1 ?_).2
        by_cases hkD : k < D.length
        · rw [List.getD_eq_getElem?_getD, List.getElem?_map, List.getElem?_eq_getElem hkD]
          rw [List.getD_eq_getElem?_getD, List.getElem?_eq_getElem hkD] at hp
          simp only [Option.map_some, Option.getD_some] at *
          exact List.mem_map.2 ⟨p, hp, rfl⟩
        · rw [List.getD_eq_getElem?_getD, List.getElem?_eq_none (by omega)] at hp
          simp at hp
      have hpi : p.1 ≠ i := by
        intro e
        by_cases hki : k = i
        · subst hki
          have := hd k (e ▸ hkp)
          rw [this] at hl
          cases hl
        · have h4 : l k = true := by simpa [upB, hki] using hlk
          have := hcl k i h4 (e ▸ hkp)
          rw [this] at hl
          cases hl
      simp [upV, hpi]
    have hfin : ∀ v w', R i w w' → T.getD i tt ((D.getD i []).map fun p => vals p.1) v w' → G (upB l i) w' ∧ (∀ j k, upB l i j = true → edge ops j k = true → upB l i k = true) ∧ ∀ k, k < ops.size → upB l i k = true → T.getD k tt ((D.getD k []).map fun p => upV vals i v p.1) (upV vals i v k) w' := by
      intro v w' hR ht
      refine ⟨hG i l w w' hi hl hd hcl hGw hR, ?_, ?_⟩
      · intro j k hj hjk
        by_cases hki : k = i
        · simp [upB, hki]
        · by_cases hji : j = i
          · subst hji
            have := hd k hjk
            simp [upB, this]
          · have h4 : l j = true := by simpa [upB, hji] using hj
            have := hcl j k h4 hjk
            simp [upB, this]
      · intro k hk hlk
        rw [hdm k hk v hlk]
        by_cases hki : k = i
        · subst hki
          simpa [upV] using ht
        · have h4 : l k = true := by simpa [upB, hki] using hlk
          have h5 := hT k hk h4
          have h6 := hst i k l hi hk hl h4 hcl _ _ _ _ h5 hR
          simpa [upV, hki] using h6
    split
    · rename_i hw
      rw [if_pos hw] at hd'
      unfold Out at *
      generalize (execOp _ o).run P w = r at *
      cases r with
      | ok nx w' =>
        cases nx <;> simp only [] at hd' ⊢
        case value v => exact hfin v w' hd'.1 hd'.2
        case skip => exact hfin undef w' hd'.1 hd'.2
        case enter f args => exact Calls.mono hd' fun e w'' ⟨v, he, hR, ht⟩ => ⟨v, he, hfin v w'' hR ht⟩
      | halt x w' => simp only [] at hd'
    · rename_i hw
      rw [if_neg hw] at hd'
      exact hfin undef w hd'.1 hd'.2
  · intro l vals w hall ⟨hGw, _, hT⟩
    have h := withE_sel (f := dstOf ops) (vals := vals) D E T 0 a (by rw [ok3]; simpa using hn) (by rw [ok3]; simpa using ok2) (fun j hj => by
      have hj' : j < ops.size := by rw [ok3] at hj; simpa using hj
      rw [Nat.zero_add]
      refine ⟨?_, fun p hp => ?_, hT j hj' (hall j hj')⟩
      rotate_left
      · have h3 := (ok_parts ok1).2 j hj'
        have hjD : j < D.length := by omega
        have h4 := (h3.2.2 p.1 (by
          rw [List.getD_eq_getElem?_getD, List.getElem?_map, List.getElem?_eq_getElem hjD]
          rw [List.getD_eq_getElem?_getD, List.getElem?_eq_getElem hjD] at hp
          simp only [Option.map_some, Option.getD_some] at *
          exact List.mem_map.2 ⟨p, hp, rfl⟩)).2
        obtain ⟨o, ho, e, he, hbe, hon⟩ := edge_iff.1 h4
        have := h3.1 o ho e he hbe
        omega
      rw [ok3]
      simp [dstOf, hj']) (hend l w (by simpa [hn] using hall) hGw)
    have e : E.length = ops.size := by rw [ok3]; simp
    rw [e] at h
    rw [List.range_eq_range']
    exact h

/-- No operation changes what is told of the world; each leaves 'R' behind. -/
theorem steadyR {n : Nat} (hm : P.follows .mixedOrders = true) (D : List (List (Nat × Tmp))) (E : List (Option Tmp)) (hok : okT ops D E = true) (T : List Tell) (hn : T.length = n) (hs : ops.size = n)
    (B : World → Prop) (R : World → World → Prop) (hst : sts (fun _ => R) 0 T) (h0 : B w.drew) (hB : ∀ w w', B w → R w w' → B w')
    (hop : obs P ops a T (fun _ => B) (fun _ => R) 0 ops.toList D T)
    (hend : ∀ w, B w → withE w (fun A => Q .normal A w) D E T a []) : (Code.region id ops true).wp P Q a w :=
  steadyG hm D E hok T hn hs (fun _ => B) (fun _ => R) (fun _ j _ _ hj _ _ _ => sts_get 0 T j (by omega) hst) h0 (fun _ => B) (fun _ _ _ _ _ _ _ h => h) (fun _ _ w w' _ _ _ _ h hR => hB w w' h hR) hop (fun _ w _ h => hend w h)

/-- One operation, number 'd', changes the world; each other one is behind it or ahead of it: 0 ahead, 1 the one, 2 behind. -/
def ordB (ops : Array Oper) (d : Nat) (K : List Nat) : Bool := (List.range ops.size).all fun i => match K.getD i 0 with
  | 0 => (List.range ops.size).any fun j => edge ops j i && (j == d || K.getD j 0 == 0)
  | 1 => i == d
  | _ => (List.range ops.size).any fun j => edge ops i j && (j == d || (K.getD j 0 != 0 && K.getD j 0 != 1))
def phB (K : List Nat) (B C : World → Prop) (i : Nat) : World → Prop := match K.getD i 0 with
  | 0 => B
  | 1 => B
  | _ => C
def phR (K : List Nat) (R RD RC : World → World → Prop) (C : World → Prop) (i : Nat) : World → World → Prop := match K.getD i 0 with
  | 0 => R
  | 1 => fun w w' => RD w w' ∧ C w'
  | _ => RC
theorem steadyW {n : Nat} (hm : P.follows .mixedOrders = true) (D : List (List (Nat × Tmp))) (E : List (Option Tmp)) (hok : okT ops D E = true) (d : Nat) (K : List Nat) (hord : ordB ops d K = true) (hd : K.getD d 0 = 1) (hdn : d < n) (T : List Tell) (hn : T.length = n) (hs : ops.size = n)
    (B : World → Prop) (R : World → World → Prop) (RD : World → World → Prop) (C : World → Prop) (RC : World → World → Prop) (hst : sts (fun i w w' => (K.getD i 0 = 0 ∧ (R w w' ∨ (RD w w' ∧ C w'))) ∨ RC w w') 0 T) (h0 : B w.drew) (hB : ∀ w w', B w → R w w' → B w') (hC : ∀ w w', C w → RC w w' → C w')
    (hop : obs P ops a T (phB K B C) (phR K R RD RC C) 0 ops.toList D T)
    (hend : ∀ w, C w → withE w (fun A => Q .normal A w) D E T a []) : (Code.region id ops true).wp P Q a w := by
  subst hs
  have hedge : ∀ i j, edge ops i j = true → j < i ∧ i < ops.size := by
    intro i j h
    obtain ⟨o, ho, e, he, hbe, hon⟩ := edge_iff.1 h
    have hi := (Array.getElem?_eq_some_iff.1 ho).1
    have := ((ok_parts (okT_parts hok).1).2 i hi).1 o ho e he hbe
    exact ⟨by omega, hi⟩
  have hkind : ∀ i, i < ops.size → (K.getD i 0 = 0 ∧ ∃ j, edge ops j i = true ∧ (j = d ∨ K.getD j 0 = 0)) ∨ (K.getD i 0 = 1 ∧ i = d) ∨ ((K.getD i 0 ≠ 0 ∧ K.getD i 0 ≠ 1) ∧ ∃ j, edge ops i j = true ∧ (j = d ∨ (K.getD j 0 ≠ 0 ∧ K.getD j 0 ≠ 1))) := by
    intro i hi
    have h := List.all_eq_true.1 hord i (List.mem_range.2 hi)
    generalize hk : K.getD i 0 = k at h ⊢
    match k with
    | 0 =>
      obtain ⟨j, _, hj⟩ := List.any_eq_true.1 h
      simp only [Bool.and_eq_true, Bool.or_eq_true, beq_iff_eq] at hj
      exact .inl ⟨rfl, j, hj⟩
    | 1 => exact .inr (.inl ⟨rfl, by simpa using h⟩)
    | k + 2 =>
      obtain ⟨j, _, hj⟩ := List.any_eq_true.1 h
      simp only [Bool.and_eq_true, Bool.or_eq_true, beq_iff_eq, bne_iff_ne] at hj
      exact .inr (.inr ⟨⟨by omega, by omega⟩, j, hj⟩)
  have hahead : ∀ (l : Nat → Bool), (∀ j k, l j = true → edge ops j k = true → l k = true) → l d = true → ∀ m i, ops.size - i = m → i < ops.size → K.getD i 0 = 0 → l i = true := by
    intro l hcl hld m
    induction m using Nat.strongRecOn with
    | _ m ih =>
      intro i hm hi hk
      rcases hkind i hi with ⟨_, j, hj, hjd⟩ | ⟨e, _⟩ | ⟨⟨e, _⟩, _⟩
      · have hl := hedge j i hj
        rcases hjd with rfl | hjk
        · exact hcl j i hld hj
        · exact hcl j i (ih (ops.size - j) (by omega) j rfl hl.2 hjk) hj
      · omega
      · exact absurd hk e
  have hbehind : ∀ (l : Nat → Bool), (∀ j k, l j = true → edge ops j k = true → l k = true) → ∀ i, i < ops.size → (K.getD i 0 ≠ 0 ∧ K.getD i 0 ≠ 1) → l i = true → l d = true := by
    intro l hcl i
    induction i using Nat.strongRecOn with
    | _ i ih =>
      intro hi hk hli
      rcases hkind i hi with ⟨e, _⟩ | ⟨e, _⟩ | ⟨_, j, hj, hjd⟩
      · exact absurd e hk.1
      · exact absurd e hk.2
      · have hl := hedge i j hj
        rcases hjd with rfl | hjk
        · exact hcl i j hli hj
        · exact ih j hl.1 (by omega) hjk (hcl i j hli hj)
  have hdd : ∀ i, K.getD i 0 ≠ 1 → i ≠ d := fun i h e => by subst e; exact h hd
  refine steadyG hm D E hok T hn rfl (fun l w => if l d = true then C w else B w) _ ?_ (by simpa using h0) _ ?_ ?_ hop ?_
  · intro i j l hi hj hli hlj hcl ds v w w' h hR
    have hS := sts_get 0 T j (by omega) hst ds v w w' h
    rw [Nat.zero_add] at hS
    have hjd : l d = false → K.getD j 0 = 0 := fun hld => by
      rcases hkind j hj with ⟨e, _⟩ | ⟨_, e⟩ | ⟨e, _⟩
      · exact e
      · subst e; rw [hld] at hlj; cases hlj
      · rw [hbehind l hcl j hj e hlj] at hld; cases hld
    unfold phR at hR
    rcases hkind i hi with ⟨e, _⟩ | ⟨e, e1⟩ | ⟨⟨e, e2⟩, _⟩
    · rw [e] at hR
      refine hS (.inl ⟨hjd ?_, .inl hR⟩)
      cases hb : l d with
      | false => rfl
      | true => rw [hahead l hcl hb _ i rfl hi e] at hli; cases hli
    · rw [e] at hR
      subst e1
      exact hS (.inl ⟨hjd hli, .inr hR⟩)
    · refine hS (.inr ?_)
      generalize K.getD i 0 = k at e e2 hR
      match k with
      | 0 => exact absurd rfl e
      | 1 => exact absurd rfl e2
      | k + 2 => exact hR
  · intro i l w hi hl hdone hcl h
    unfold phB
    rcases hkind i hi with ⟨e, _⟩ | ⟨e, e1⟩ | ⟨⟨e, e2⟩, j, hj, hjd⟩
    · rw [e]
      cases hb : l d with
      | true => rw [hahead l hcl hb _ i rfl hi e] at hl; cases hl
      | false => rwa [hb, if_neg (by simp)] at h
    · rw [e]
      subst e1
      rwa [hl, if_neg (by simp)] at h
    · have hld : l d = true := by
        rcases hjd with rfl | hjk
        · exact hdone j hj
        · exact hbehind l hcl j (by have := hedge i j hj; omega) hjk (hdone j hj)
      rw [hld, if_pos rfl] at h
      generalize K.getD i 0 = k at e e2 ⊢
      match k with
      | 0 => exact absurd rfl e
      | 1 => exact absurd rfl e2
      | k + 2 => exact h
  · intro i l w w' hi hl hdone hcl h hR
    unfold phR at hR
    rcases hkind i hi with ⟨e, _⟩ | ⟨e, e1⟩ | ⟨⟨e, e2⟩, j, hj, hjd⟩
    · rw [e] at hR
      have hid : i ≠ d := hdd i (by omega)
      have eu : upB l i d = l d := by simp [upB, Ne.symm hid]
      rw [eu]
      cases hb : l d with
      | true => rw [hahead l hcl hb _ i rfl hi e] at hl; cases hl
      | false =>
        rw [hb, if_neg (by simp)] at h
        rw [if_neg (by simp)]
        exact hB _ _ h hR
    · rw [e] at hR
      subst e1
      simpa [upB] using hR.2
    · have hid : i ≠ d := hdd i e2
      have eu : upB l i d = l d := by simp [upB, Ne.symm hid]
      have hld : l d = true := by
        rcases hjd with rfl | hjk
        · exact hdone j hj
        · exact hbehind l hcl j (by have := hedge i j hj; omega) hjk (hdone j hj)
      rw [eu]
      rw [hld, if_pos rfl] at h ⊢
      generalize K.getD i 0 = k at e e2 hR
      match k with
      | 0 => exact absurd rfl e
      | 1 => exact absurd rfl e2
      | k + 2 => exact hC _ _ h hR
  · intro l w hall h
    rw [hall d hdn, if_pos rfl] at h
    exact hend w h
end
end Go.Proofs.Ytfijbhacobjjgah.St
namespace Go.Proofs.Ytfijbhacobjjgah.St
open Go Go.RowKit
section
variable {P : Program} {ops : Array Oper} {A : Act} {o : Oper} {w : World} {X : Value → World → Prop} {Y : Prop}
/-- An operation that yields a value. -/
theorem ob_value {v : Value} {w' : World} (hw : Region.wanted o (yielded ops A.tmps) = true) (hrun : (execOp A.eval o).run P w = .ok (.value v) w') (h : X v w') : Does P ops o A w X Y := by
  unfold Does
  rw [if_pos hw]
  unfold Out
  rw [hrun]
  exact h
theorem ob_skip {w' : World} (hw : Region.wanted o (yielded ops A.tmps) = true) (hrun : (execOp A.eval o).run P w = .ok .skip w') (h : X undef w') : Does P ops o A w X Y := by
  unfold Does
  rw [if_pos hw]
  unfold Out
  rw [hrun]
  exact h
theorem ob_off (hw : Region.wanted o (yielded ops A.tmps) = false) (h : Y) : Does P ops o A w X Y := by
  unfold Does
  rw [if_neg (by simp [hw])]
  exact h
theorem ob_call {f : FuncId} {fn : Func} {as : Array Operand} {ts : Array TypeId} (hf : P.funcs[f]? = some fn) (hname : (fn.name == "runtime.NumGoroutine") = false) (hb : fn.body.isSome = true) (args : Array Value)
    (hw : Region.wanted o (yielded ops A.tmps) = true) (hop : o.op = .call { callee := .value (.func f), args := as, argTypes := ts }) (hargs : as.map A.eval = args)
    (h : Calls P f args w fun e w' => ∃ v, e = .returned v ∧ X v w') : Does P ops o A w X Y := by
  unfold Does
  have h1 : fn.name ≠ "runtime.NumGoroutine" := by simpa using hname
  obtain ⟨c, hc⟩ := Option.isSome_iff_exists.1 hb
  have he : (callFunc f args).run P w = .ok (.enter f args) w := by simp [callFunc, hf, h1, hc]
  have hrun : (execOp A.eval o).run P w = .ok (.enter f args) w := by
    unfold execOp
    simp [hop, resolve, Deferred.ofValue, invoke, Act.eval, hargs, he]
  rw [if_pos hw]
  unfold Out
  rw [hrun]
  exact h
end
end Go.Proofs.Ytfijbhacobjjgah.St
