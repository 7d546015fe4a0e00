/- The law for a region whose order is open, in the form in which a walk uses it: what each operation yields is told by a list, operation by operation. -/
import Derived.Test.YtfcpjblogeofpaaSteady
import Derived.Below
namespace Go.Proofs.Ytfcpjblogeofpaa.St
open Go Go.RowKit
abbrev Tell := Value → World → Prop
def tt : Tell := fun _ _ => True

def withD (T : List Tell) (w : World) (k : Act → Prop) : List (Nat × Tmp) → Act → Prop
  | [], a => k a
  | (j, s) :: r, a => ∀ v, T.getD j tt v w → withD T w k r (a.put (some s) v)
def withE (w : World) (k : Act → Prop) : List (Option Tmp) → List Tell → Act → Prop
  | d :: ds, t :: ts, a => ∀ v, t v w → withE w k ds ts (a.put d v)
  | _, _, a => k a
/-- What is owed of one operation. -/
def Ob (P : Program) (ops : Array Oper) (a : Act) (T : List Tell) (B : World → Prop) (R : World → World → Prop) (o : Oper) (d : List (Nat × Tmp)) (t : Tell) : Prop :=
  ∀ w, B w → withD T w (fun A => if Region.wanted o (yielded ops A.tmps) = true then Out P A.eval o w (fun v w' => R w w' ∧ t v w') else R w w ∧ t undef w) d a
def obs (P : Program) (ops : Array Oper) (a : Act) (T : List Tell) (B : Nat → World → Prop) (R : Nat → World → World → Prop) : Nat → List Oper → List (List (Nat × Tmp)) → List Tell → Prop
  | i, o :: os, d :: ds, t :: ts => Ob P ops a T (B i) (R i) o d t ∧ obs P ops a T B R (i + 1) os ds ts
  | _, _, _, _ => True

theorem withD_can {ops : Array Oper} {T : List Tell} {w : World} {k : Act → Prop} {vals : Nat → Value} : ∀ (d : List (Nat × Tmp)) (a : Act), (∀ p ∈ d, dstOf ops p.1 = some p.2 ∧ T.getD p.1 tt (vals p.1) w) → withD T w k d a →
    k (sel (dstOf ops) vals (fun _ => true) (d.map (·.1)) a)
  | [], _, _, h => h
  | (j, s) :: r, a, hp, h => by
    have h1 := hp (j, s) (List.mem_cons_self ..)
    have h2 := withD_can r (a.put (some s) (vals j)) (fun p hm => hp p (List.mem_cons_of_mem _ hm)) (h _ h1.2)
    simpa [sel, h1.1] using h2
theorem withE_sel {f : Nat → Option Tmp} {w : World} {k : Act → Prop} {vals : Nat → Value} : ∀ (ds : List (Option Tmp)) (ts : List Tell) (i : Nat) (a : Act), ts.length = ds.length → (∀ j, j < ds.length → f (i + j) = ds.getD j none ∧ ts.getD j tt (vals (i + j)) w) → withE w k ds ts a →
    k (sel f vals (fun _ => true) (List.range' i ds.length) a)
  | [], [], _, _, _, _, h => h
  | [], _ :: _, _, _, hl, _, _ => by simp at hl
  | _ :: _, [], _, _, hl, _, _ => by simp at hl
  | d :: ds, t :: ts, i, a, hl, hp, h => by
    have h1 := hp 0 (by simp)
    simp only [Nat.add_zero, List.getD_cons_zero] at h1
    have h2 := withE_sel (f := f) (vals := vals) ds ts (i + 1) (a.put d (vals i)) (by simpa using hl) (fun j hj => by
      have := hp (j + 1) (by simpa using hj)
      simp only [List.getD_cons_succ] at this
      rw [show i + 1 + j = i + (j + 1) by omega]
      exact this) (h _ h1.2)
    simp only [List.length_cons, List.range'_succ, sel, if_true, h1.1]
    exact h2
theorem obs_get {P : Program} {ops : Array Oper} {a : Act} {T : List Tell} {B : Nat → World → Prop} {R : Nat → World → World → Prop} : ∀ (i : Nat) (os : List Oper) (ds : List (List (Nat × Tmp))) (ts : List Tell) (k : Nat) (o : Oper), ds.length = os.length → ts.length = os.length → obs P ops a T B R i os ds ts → os[k]? = some o →
    Ob P ops a T (B (i + k)) (R (i + k)) o (ds.getD k []) (ts.getD k tt)
  | i, o :: os, d :: ds, t :: ts, 0, _, _, _, h, hk => by
    simp only [List.getElem?_cons_zero, Option.some.injEq] at hk
    subst hk
    exact h.1
  | i, o :: os, d :: ds, t :: ts, k + 1, o', h1, h2, h, hk => by
    have := obs_get (i + 1) os ds ts k o' (by simpa using h1) (by simpa using h2) h.2 (by simpa using hk)
    rw [show i + 1 + k = i + (k + 1) by omega] at this
    simpa using this
  | _, [], _, _, _, _, _, _, _, hk => by simp at hk
  | _, _ :: _, [], _, _, _, h1, _, _, _ => by simp at h1
  | _, _ :: _, _ :: _, [], _, _, _, h2, _, _ => by simp at h2

/-- The check by the kernel. -/
def okT (ops : Array Oper) (D : List (List (Nat × Tmp))) (E : List (Option Tmp)) : Bool :=
  okB ops (D.map (·.map (·.1))) && D.length == ops.size && E == ops.toList.map (·.dst) && D.all (fun d => d.all fun p => dstOf ops p.1 == some p.2)
theorem okT_parts {ops : Array Oper} {D : List (List (Nat × Tmp))} {E : List (Option Tmp)} (h : okT ops D E = true) :
    okB ops (D.map (·.map (·.1))) = true ∧ D.length = ops.size ∧ E = ops.toList.map (·.dst) ∧ ∀ d ∈ D, ∀ p ∈ d, dstOf ops p.1 = some p.2 := by
  unfold okT at h
  simp only [Bool.and_eq_true, beq_iff_eq, List.all_eq_true] at h
  exact ⟨h.1.1.1, h.1.1.2, h.1.2, h.2⟩

section
variable {P : Program} {ops : Array Oper} {Q : Exit → Act → World → Prop} {id : Nat} {a : Act} {w : World}

/-- The world is told by flags of what is done. -/
theorem steadyG {n : Nat} (hm : P.follows .mixedOrders = true) (D : List (List (Nat × Tmp))) (E : List (Option Tmp)) (hok : okT ops D E = true) (T : List Tell) (hn : T.length = n) (hs : ops.size = n)
    (G : (Nat → Bool) → World → Prop) (R : Nat → World → World → Prop) (hst : ∀ i t, t ∈ T → ∀ v w w', t v w → R i w w' → t v w') (h0 : G (fun _ => false) w.drew)
    (B : Nat → World → Prop) (hB : ∀ i l w, i < ops.size → l i = false → (∀ j, edge ops i j = true → l j = true) → (∀ j, l j = true → edge ops j i = false) → G l w → B i w)
    (hG : ∀ i l w w', i < ops.size → l i = false → (∀ j, edge ops i j = true → l j = true) → (∀ j, l j = true → edge ops j i = false) → G l w → R i w w' → G (upB l i) w')
    (hop : obs P ops a T B R 0 ops.toList D T)
    (hend : ∀ l w, (∀ i, i < n → l i = true) → G l w → withE w (fun A => Q .normal A w) E T a) : (Code.region id ops true).wp P Q a w := by
  subst hs
  obtain ⟨ok1, ok2, ok3, ok4⟩ := okT_parts hok
  refine steady hm ok1 (fun l vals w => G l w ∧ (∀ j k, l j = true → edge ops j k = true → l k = true) ∧ ∀ i, i < ops.size → l i = true → T.getD i tt (vals i) w) (fun _ => undef) ⟨h0, by simp, by simp⟩ ?_ ?_
  · intro i o ho l vals w hl hd ⟨hGw, hcl, hT⟩
    have hi : i < ops.size := (Array.getElem?_eq_some_iff.1 ho).1
    have hne : ∀ j, l j = true → edge ops j i = false := fun j hj => by
      cases he : edge ops j i with
      | false => rfl
      | true => rw [hcl j i hj he] at hl; cases hl
    have hob := obs_get 0 ops.toList D T i o (by simpa using ok2) (by simpa using hn) hop (by simpa using ho)
    rw [Nat.zero_add] at hob
    have hd' := withD_can (ops := ops) (vals := vals) (D.getD i []) a (fun p hp => by
      by_cases hiD : i < D.length
      · have hm : D.getD i [] ∈ D := by
          rw [List.getD_eq_getElem?_getD, List.getElem?_eq_getElem hiD]
          exact List.getElem_mem hiD
        refine ⟨ok4 _ hm p hp, ?_⟩
        have h3 := (ok_parts ok1).2 i hi
        have h4 := h3.2.2 p.1 (by
          rw [List.getD_eq_getElem?_getD, List.getElem?_map, List.getElem?_eq_getElem hiD] at *
          simp only [Option.map_some, Option.getD_some] at *
          exact List.mem_map.2 ⟨p, hp, rfl⟩)
        exact hT p.1 h4.1 (hd p.1 h4.2)
      · rw [List.getD_eq_getElem?_getD, List.getElem?_eq_none (by omega)] at hp
        simp at hp) (hob w (hB i l w hi hl hd hne hGw))
    have hcan : can ops (D.map (·.map (·.1))) vals i a = sel (dstOf ops) vals (fun _ => true) ((D.getD i []).map (·.1)) a := by
      unfold can
      congr 1
      rw [List.getD_eq_getElem?_getD, List.getD_eq_getElem?_getD, List.getElem?_map]
      cases D[i]? <;> rfl
    rw [hcan]
    have hfin : ∀ v w', R i w w' → T.getD i tt v w' → G (upB l i) w' ∧ (∀ j k, upB l i j = true → edge ops j k = true → upB l i k = true) ∧ ∀ k, k < ops.size → upB l i k = true → T.getD k tt (upV vals i v k) w' := by
      intro v w' hR ht
      refine ⟨hG i l w w' hi hl hd hne hGw hR, ?_, ?_⟩
      · intro j k hj hjk
        by_cases hki : k = i
        · simp [upB, hki]
        · by_cases hji : j = i
          · subst hji
            have := hd k hjk
            simp [upB, this]
          · have h4 : l j = true := by simpa [upB, hji] using hj
            have := hcl j k h4 hjk
            simp [upB, this]
      · intro k hk hlk
        by_cases hki : k = i
        · subst hki
          simpa [upV] using ht
        · have h4 : l k = true := by simpa [upB, hki] using hlk
          have h5 := hT k hk h4
          have hkT : k < T.length := by omega
          have hmem : T.getD k tt ∈ T := by
            rw [List.getD_eq_getElem?_getD, List.getElem?_eq_getElem hkT]
            exact List.getElem_mem hkT
          have h6 := hst i _ hmem _ _ _ h5 hR
          simpa [upV, hki] using h6
    split
    · rename_i hw
      rw [if_pos hw] at hd'
      unfold Out at *
      generalize (execOp _ o).run P w = r at *
      cases r with
      | ok nx w' =>
        cases nx <;> simp only [] at hd' ⊢
        case value v => exact hfin v w' hd'.1 hd'.2
        case skip => exact hfin undef w' hd'.1 hd'.2
        case enter f args => exact Calls.mono hd' fun e w'' ⟨v, he, hR, ht⟩ => ⟨v, he, hfin v w'' hR ht⟩
      | halt x w' => simp only [] at hd'
    · rename_i hw
      rw [if_neg hw] at hd'
      exact hfin undef w hd'.1 hd'.2
  · intro l vals w hall ⟨hGw, _, hT⟩
    have h := withE_sel (f := dstOf ops) (vals := vals) E T 0 a (by rw [ok3]; simpa using hn) (fun j hj => by
      have hj' : j < ops.size := by rw [ok3] at hj; simpa using hj
      rw [Nat.zero_add]
      refine ⟨?_, hT j hj' (hall j hj')⟩
      rw [ok3]
      simp [dstOf, hj']) (hend l w (by simpa [hn] using hall) hGw)
    have e : E.length = ops.size := by rw [ok3]; simp
    rw [e] at h
    rw [List.range_eq_range']
    exact h

/-- No operation changes what is told of the world; each leaves 'R' behind. -/
theorem steadyR {n : Nat} (hm : P.follows .mixedOrders = true) (D : List (List (Nat × Tmp))) (E : List (Option Tmp)) (hok : okT ops D E = true) (T : List Tell) (hn : T.length = n) (hs : ops.size = n)
    (B : World → Prop) (R : World → World → Prop) (hst : ∀ t, t ∈ T → ∀ v w w', t v w → R w w' → t v w') (h0 : B w.drew) (hB : ∀ w w', B w → R w w' → B w')
    (hop : obs P ops a T (fun _ => B) (fun _ => R) 0 ops.toList D T)
    (hend : ∀ w, B w → withE w (fun A => Q .normal A w) E T a) : (Code.region id ops true).wp P Q a w :=
  steadyG hm D E hok T hn hs (fun _ => B) (fun _ => R) (fun _ t ht => hst t ht) h0 (fun _ => B) (fun _ _ _ _ _ _ _ h => h) (fun _ _ w w' _ _ _ _ h hR => hB w w' h hR) hop (fun _ w _ h => hend w h)

/-- One operation, number 'd', changes the world; each other one is behind it or ahead of it. -/
def ordB (ops : Array Oper) (d : Nat) : Bool := (List.range ops.size).all fun i => i == d || edge ops d i || edge ops i d
theorem steadyW {n : Nat} (hm : P.follows .mixedOrders = true) (D : List (List (Nat × Tmp))) (E : List (Option Tmp)) (hok : okT ops D E = true) (d : Nat) (hord : ordB ops d = true) (hd : d < n) (T : List Tell) (hn : T.length = n) (hs : ops.size = n)
    (B : World → Prop) (R : World → World → Prop) (RD : World → World → Prop) (C : World → Prop) (RC : World → World → Prop) (hst : ∀ t, t ∈ T → ∀ v w w', t v w → (R w w' ∨ (RD w w' ∧ C w') ∨ RC w w') → t v w') (h0 : B w.drew) (hB : ∀ w w', B w → R w w' → B w') (hC : ∀ w w', C w → RC w w' → C w')
    (hop : obs P ops a T (fun i w => if i = d then B w else if edge ops d i = true then B w else C w) (fun i w w' => if i = d then RD w w' ∧ C w' else if edge ops d i = true then R w w' else RC w w') 0 ops.toList D T)
    (hend : ∀ w, C w → withE w (fun A => Q .normal A w) E T a) : (Code.region id ops true).wp P Q a w := by
  subst hs
  have hordd : ∀ i, i < ops.size → i ≠ d → edge ops d i = true ∨ edge ops i d = true := by
    intro i hi hne
    have := List.all_eq_true.1 hord i (List.mem_range.2 hi)
    simpa [hne] using this
  have hlt : ∀ i j, edge ops i j = true → j < i ∧ i < ops.size := by
    intro i j h
    obtain ⟨o, ho, e, he, _, hon⟩ := edge_iff.1 h
    have hi := (Array.getElem?_eq_some_iff.1 ho).1
    have := ((ok_parts (okT_parts hok).1).2 i hi).1 o ho e he
    exact ⟨by omega, hi⟩
  refine steadyG hm D E hok T hn rfl (fun l w => if l d = true then C w else B w) _ ?_ (by simpa using h0) _ ?_ ?_ hop ?_
  · intro i t ht v w w' h hR
    split at hR
    · exact hst t ht v w w' h (.inr (.inl hR))
    · split at hR
      · exact hst t ht v w w' h (.inl hR)
      · exact hst t ht v w w' h (.inr (.inr hR))
  · intro i l w hi hl hdone hne h
    by_cases e : i = d
    · subst e
      rw [if_pos rfl]
      rwa [hl, if_neg (by simp)] at h
    · rw [if_neg e]
      by_cases e1 : edge ops d i = true
      · rw [if_pos e1]
        cases hb : l d with
        | true => rw [hne d hb] at e1; cases e1
        | false => rwa [hb, if_neg (by simp)] at h
      · rw [if_neg e1]
        rcases hordd i hi e with e2 | e2
        · exact absurd e2 e1
        · rwa [hdone d e2, if_pos rfl] at h
  · intro i l w w' hi hl hdone hne h hR
    by_cases e : i = d
    · subst e
      rw [if_pos rfl] at hR
      simpa [upB] using hR.2
    · rw [if_neg e] at hR
      have eu : upB l i d = l d := by simp [upB, Ne.symm e]
      rw [eu]
      by_cases e1 : edge ops d i = true
      · rw [if_pos e1] at hR
        cases hb : l d with
        | true => rw [hne d hb] at e1; cases e1
        | false =>
          rw [hb, if_neg (by simp)] at h
          rw [if_neg (by simp)]
          exact hB _ _ h hR
      · rw [if_neg e1] at hR
        rcases hordd i hi e with e2 | e2
        · exact absurd e2 e1
        · rw [hdone d e2, if_pos rfl] at h ⊢
          exact hC _ _ h hR
  · intro l w hall h
    rw [hall d (by omega), if_pos rfl] at h
    exact hend w h
end
end Go.Proofs.Ytfcpjblogeofpaa.St
namespace Go.Proofs.Ytfcpjblogeofpaa.St
open Go Go.RowKit
section
variable {P : Program} {ops : Array Oper} {A : Act} {o : Oper} {w : World} {X : Value → World → Prop} {Y : Prop}
/-- An operation that yields a value. -/
theorem ob_value {v : Value} {w' : World} (hw : Region.wanted o (yielded ops A.tmps) = true) (hrun : (execOp A.eval o).run P w = .ok (.value v) w') (h : X v w') : if Region.wanted o (yielded ops A.tmps) = true then Out P A.eval o w X else Y := by
  rw [if_pos hw]
  unfold Out
  rw [hrun]
  exact h
theorem ob_skip {w' : World} (hw : Region.wanted o (yielded ops A.tmps) = true) (hrun : (execOp A.eval o).run P w = .ok .skip w') (h : X undef w') : if Region.wanted o (yielded ops A.tmps) = true then Out P A.eval o w X else Y := by
  rw [if_pos hw]
  unfold Out
  rw [hrun]
  exact h
theorem ob_off (hw : Region.wanted o (yielded ops A.tmps) = false) (h : Y) : if Region.wanted o (yielded ops A.tmps) = true then Out P A.eval o w X else Y := by
  rw [if_neg (by simp [hw])]
  exact h
theorem ob_call {f : FuncId} {fn : Func} {as : Array Operand} {ts : Array TypeId} (hf : P.funcs[f]? = some fn) (hname : (fn.name == "runtime.NumGoroutine") = false) (hb : fn.body.isSome = true) (args : Array Value)
    (hw : Region.wanted o (yielded ops A.tmps) = true) (hop : o.op = .call { callee := .value (.func f), args := as, argTypes := ts }) (hargs : as.map A.eval = args)
    (h : Calls P f args w fun e w' => ∃ v, e = .returned v ∧ X v w') : if Region.wanted o (yielded ops A.tmps) = true then Out P A.eval o w X else Y := by
  have h1 : fn.name ≠ "runtime.NumGoroutine" := by simpa using hname
  obtain ⟨c, hc⟩ := Option.isSome_iff_exists.1 hb
  have he : (callFunc f args).run P w = .ok (.enter f args) w := by simp [callFunc, hf, h1, hc]
  have hrun : (execOp A.eval o).run P w = .ok (.enter f args) w := by
    unfold execOp
    simp [hop, resolve, Deferred.ofValue, invoke, Act.eval, hargs, he]
  rw [if_pos hw]
  unfold Out
  rw [hrun]
  exact h
end
end Go.Proofs.Ytfcpjblogeofpaa.St
