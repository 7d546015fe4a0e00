/- A law for a region whose order is open: where each operation, whenever its turn comes, yields a value of which the same is known, the region ends in one way. -/
import Derived.Orders
import Derived.Calls
import Derived.WalkKit
namespace Go.Proofs.Ytfijbhacobjjgah.St
open Go

/-- What comes of one operation. -/
def Out (P : Program) (ρ : Operand → Value) (o : Oper) (w : World) (R : Value → World → Prop) : Prop :=
  match (execOp ρ o).run P w with
  | .ok (.value v) w' => R v w'
  | .ok .skip w' => R undef w'
  | .ok (.enter f args) w' => Calls P f args w' fun e w'' => ∃ v, e = .returned v ∧ R v w''
  | _ => False

/-- The act with the destinations of the chosen ones filled. -/
def sel (f : Nat → Option Tmp) (vals : Nat → Value) (l : Nat → Bool) : List Nat → Act → Act
  | [], a => a
  | j :: r, a => sel f vals l r (if l j then a.put (f j) (vals j) else a)

def upB (l : Nat → Bool) (i : Nat) : Nat → Bool := fun j => if j = i then true else l j
def upV (v : Nat → Value) (i : Nat) (x : Value) : Nat → Value := fun j => if j = i then x else v j

theorem sel_congr {f : Nat → Option Tmp} {vals vals' : Nat → Value} {l l' : Nat → Bool} : ∀ (js : List Nat) (a : Act), (∀ j ∈ js, l j = l' j ∧ (l j = true → vals j = vals' j)) → sel f vals l js a = sel f vals' l' js a
  | [], _, _ => rfl
  | j :: r, a, h => by
    have h1 := h j (List.mem_cons_self ..)
    have hr := fun x => sel_congr (f := f) r x (fun k hk => h k (List.mem_cons_of_mem _ hk))
    simp only [sel]
    rw [hr, ← h1.1]
    cases hb : l j with
    | false => rfl
    | true => rw [h1.2 hb]

theorem sel_put {f : Nat → Option Tmp} {vals : Nat → Value} {l : Nat → Bool} (x : Option Tmp) (v : Value) : ∀ (js : List Nat) (a : Act), (∀ k ∈ js, ∀ d, x = some d → f k ≠ some d) → sel f vals l js (a.put x v) = (sel f vals l js a).put x v
  | [], _, _ => rfl
  | j :: r, a, h => by
    have hr := fun y => sel_put (f := f) (vals := vals) (l := l) x v r y (fun k hk => h k (List.mem_cons_of_mem _ hk))
    simp only [sel]
    cases hb : l j with
    | false => simpa using hr a
    | true =>
      simp only [if_true]
      rw [Act.put_comm a v (vals j) (h j (List.mem_cons_self ..)), hr]

theorem sel_upd {f : Nat → Option Tmp} {vals : Nat → Value} {l : Nat → Bool} (i : Nat) (v : Value) (hl : l i = false) : ∀ (js : List Nat) (a : Act), js.Nodup → i ∈ js → (∀ k ∈ js, k ≠ i → ∀ d, f i = some d → f k ≠ some d) →
    sel f (upV vals i v) (upB l i) js a = (sel f vals l js a).put (f i) v
  | [], _, _, hi, _ => by cases hi
  | j :: r, a, hn, hi, h => by
    have hn' := List.nodup_cons.1 hn
    simp only [sel]
    by_cases hji : j = i
    · subst hji
      have e1 : upB l j j = true := by simp [upB]
      have e2 : upV vals j v j = v := by simp [upV]
      rw [e1, e2, hl]
      simp only [if_true, Bool.false_eq_true, if_false]
      rw [sel_congr (vals' := vals) (l' := l) r, sel_put]
      · exact fun k hk => h k (List.mem_cons_of_mem _ hk) (fun e => hn'.1 (e ▸ hk))
      · intro k hk
        have hne : k ≠ j := fun e => hn'.1 (e ▸ hk)
        simp [upB, upV, hne]
    · have hi' : i ∈ r := by
        rcases List.mem_cons.1 hi with e | e
        · exact absurd e.symm hji
        · exact e
      have e1 : upB l i j = l j := by simp [upB, hji]
      have e2 : upV vals i v j = vals j := by simp [upV, hji]
      rw [e1, e2]
      exact sel_upd i v hl r _ hn'.2 hi' (fun k hk => h k (List.mem_cons_of_mem _ hk))

theorem put_size (a : Act) (x : Option Tmp) (v : Value) : (a.put x v).tmps.size = a.tmps.size := by cases x <;> simp [Act.put]
theorem sel_size {f : Nat → Option Tmp} {vals : Nat → Value} {l : Nat → Bool} : ∀ (js : List Nat) (a : Act), (sel f vals l js a).tmps.size = a.tmps.size
  | [], _ => rfl
  | j :: r, a => by
    simp only [sel]
    rw [sel_size r]
    split
    · exact put_size ..
    · rfl
theorem put_other (a : Act) (x : Option Tmp) (v : Value) (s : Nat) (h : x ≠ some s) : (a.put x v).tmps[s]? = a.tmps[s]? := by
  cases x with
  | none => rfl
  | some d =>
    have : d ≠ s := fun e => h (e ▸ rfl)
    simp [Act.put, Array.getElem?_setIfInBounds_ne this]
theorem put_self (a : Act) (s : Nat) (v : Value) : (a.put (some s) v).tmps[s]? = if s < a.tmps.size then some v else none := by
  simp only [Act.put]
  by_cases h : s < a.tmps.size
  · simp [h]
  · simp [h]

theorem sel_none {f : Nat → Option Tmp} {vals : Nat → Value} {l : Nat → Bool} (s : Nat) : ∀ (js : List Nat) (a : Act), (∀ j ∈ js, l j = true → f j ≠ some s) → (sel f vals l js a).tmps[s]? = a.tmps[s]?
  | [], _, _ => rfl
  | j :: r, a, h => by
    simp only [sel]
    rw [sel_none s r _ (fun k hk => h k (List.mem_cons_of_mem _ hk))]
    split
    · rename_i hb
      exact put_other _ _ _ _ (h j (List.mem_cons_self ..) hb)
    · rfl
theorem sel_some {f : Nat → Option Tmp} {vals : Nat → Value} {l : Nat → Bool} (s i : Nat) (hf : f i = some s) (hl : l i = true) : ∀ (js : List Nat) (a : Act), i ∈ js → (∀ k ∈ js, k ≠ i → f k ≠ some s) → (sel f vals l js a).tmps[s]? = if s < a.tmps.size then some (vals i) else none
  | [], _, hi, _ => by cases hi
  | j :: r, a, hi, h => by
    simp only [sel]
    by_cases hir : i ∈ r
    · rw [sel_some s i hf hl r _ hir (fun k hk => h k (List.mem_cons_of_mem _ hk))]
      split <;> simp [put_size]
    · have hji : j = i := by
        rcases List.mem_cons.1 hi with e | e
        · exact e.symm
        · exact absurd e hir
      subst hji
      rw [sel_none s r _ (fun k hk _ => h k (List.mem_cons_of_mem _ hk) (fun e => hir (e ▸ hk))), if_pos hl, hf, put_self]

section
variable {P : Program} {ops : Array Oper} {Q : Exit → Act → World → Prop}

def dstOf (ops : Array Oper) (i : Nat) : Option Tmp := (ops[i]?).bind (·.dst)
def edge (ops : Array Oper) (i j : Nat) : Bool := ((ops[i]?).map fun o => o.after.any fun e => Region.binds .any e && e.on == j).getD false
def looks (ops : Array Oper) (i : Nat) : List Tmp := ((ops[i]?).map fun o => o.looksAt ops).getD []
def okB (ops : Array Oper) (D : List (List Nat)) : Bool :=
  Region.noSelect ops && (List.range ops.size).all fun i =>
    (((ops[i]?).map fun o => o.after.all fun e => !Region.binds .any e || decide (e.on < i)).getD true) &&
    ((List.range ops.size).all fun j => match dstOf ops j with
      | none => true
      | some d => if j == i then !(looks ops i).contains d else
          (dstOf ops i != some d) && (if (looks ops i).contains d then (edge ops i j && (D.getD i []).contains j) || (edge ops j i && !(D.getD i []).contains j) else true)) &&
    ((D.getD i []).all fun j => decide (j < ops.size) && edge ops i j)

theorem edge_iff {i j : Nat} : edge ops i j = true ↔ ∃ o, ops[i]? = some o ∧ ∃ e ∈ o.after, Region.binds .any e = true ∧ e.on = j := by
  unfold edge
  cases h : ops[i]? with
  | none => simp
  | some o => simp only [Option.map_some, Option.getD_some, Option.some.injEq, exists_eq_left', Array.any_eq_true', Bool.and_eq_true, beq_iff_eq]

def undone (l : Nat → Bool) : Nat → Nat
  | 0 => 0
  | n + 1 => undone l n + if l n then 0 else 1
theorem undone_le (l : Nat → Bool) (i : Nat) : ∀ n, n ≤ i → undone (upB l i) n = undone l n
  | 0, _ => rfl
  | n + 1, h => by
    have : n ≠ i := by omega
    simp only [undone]
    rw [undone_le l i n (by omega)]
    simp [upB, this]
theorem undone_lt (l : Nat → Bool) (i : Nat) (hl : l i = false) : ∀ n, i < n → undone (upB l i) n + 1 = undone l n
  | 0, h => by omega
  | n + 1, h => by
    simp only [undone]
    by_cases e : n = i
    · subst e
      rw [undone_le l n n (Nat.le_refl _)]
      simp [upB, hl]
    · have := undone_lt l i hl n (by omega)
      have e1 : upB l i n = l n := by simp [upB, e]
      rw [e1]
      omega
theorem undone_zero (l : Nat → Bool) : ∀ n, undone l n = 0 → ∀ i, i < n → l i = true
  | 0, _, i, hi => by omega
  | n + 1, h, i, hi => by
    simp only [undone] at h
    by_cases e : i = n
    · subst e
      cases hb : l i with
      | true => rfl
      | false => simp [hb] at h
    · exact undone_zero l n (by omega) i (by omega)
theorem undone_false (l : Nat → Bool) (hl : ∀ i, l i = false) : ∀ n, undone l n = n
  | 0 => rfl
  | n + 1 => by simp [undone, undone_false l hl n, hl n]
theorem least_undone (l : Nat → Bool) : ∀ n, (∃ i, i < n ∧ l i = false) → ∃ i, i < n ∧ l i = false ∧ ∀ j, j < i → l j = true
  | 0, ⟨i, hi, _⟩ => by omega
  | n + 1, ⟨i, hi, hl⟩ => by
    by_cases h : ∃ i, i < n ∧ l i = false
    · obtain ⟨j, hj, h1, h2⟩ := least_undone l n h
      exact ⟨j, by omega, h1, h2⟩
    · refine ⟨i, hi, hl, fun j hj => ?_⟩
      cases hb : l j with
      | true => rfl
      | false => exact absurd ⟨j, by omega, hb⟩ h

/-- The canonical act for one operation. -/
def can (ops : Array Oper) (D : List (List Nat)) (vals : Nat → Value) (i : Nat) (a : Act) : Act := sel (dstOf ops) vals (fun _ => true) (D.getD i []) a

theorem ok_parts {D : List (List Nat)} (h : okB ops D = true) : Region.noSelect ops = true ∧ ∀ i, i < ops.size →
    (∀ o, ops[i]? = some o → ∀ e ∈ o.after, Region.binds .any e = true → e.on < i) ∧
    (∀ j, j < ops.size → ∀ d, dstOf ops j = some d → (j = i → d ∉ looks ops i) ∧ (j ≠ i → dstOf ops i ≠ some d ∧ (d ∈ looks ops i → (edge ops i j = true ∧ j ∈ D.getD i []) ∨ (edge ops j i = true ∧ j ∉ D.getD i [])))) ∧
    (∀ j ∈ D.getD i [], j < ops.size ∧ edge ops i j = true) := by
  unfold okB at h
  simp only [Bool.and_eq_true, List.all_eq_true, List.mem_range] at h
  refine ⟨h.1, fun i hi => ?_⟩
  obtain ⟨⟨h1, h2⟩, h3⟩ := h.2 i hi
  refine ⟨fun o ho e he hbe => ?_, fun j hj d hd => ?_, fun j hj => ?_⟩
  · rw [ho] at h1
    have := Array.all_eq_true'.1 h1 e he
    simpa [hbe] using this
  · have h4 := h2 j hj
    rw [hd] at h4
    by_cases hji : j = i
    · refine ⟨fun _ => ?_, fun hn => absurd hji hn⟩
      simpa [hji] using h4
    · refine ⟨fun e => absurd e hji, fun _ => ?_⟩
      have hb : (j == i) = false := by simpa using hji
      rw [hb] at h4
      simp only [Bool.false_eq_true, if_false, Bool.and_eq_true] at h4
      refine ⟨by simpa using h4.1, fun hm => ?_⟩
      have h5 := h4.2
      rw [if_pos (by simpa using hm)] at h5
      simpa using h5
  · have h4 := h3 j hj
    simpa using h4

theorem can_get {D : List (List Nat)} (hok : okB ops D = true) {l : Nat → Bool} {vals : Nat → Value} {a : Act} {i : Nat} (hi : i < ops.size) (hl : l i = false)
    (hr : ∀ j, edge ops i j = true → l j = true) (hc : ∀ j k, l j = true → edge ops j k = true → l k = true) (s : Nat) (hs : s ∈ looks ops i) :
    (sel (dstOf ops) vals l (List.range ops.size) a).tmps[s]? = (can ops D vals i a).tmps[s]? := by
  obtain ⟨_, hk⟩ := ok_parts hok
  obtain ⟨ha, hb, hd⟩ := hk i hi
  by_cases hex : ∃ j, j < ops.size ∧ dstOf ops j = some s
  · obtain ⟨j, hj, hjs⟩ := hex
    have hji : j ≠ i := fun e => (hb j hj s hjs).1 e hs
    have huniq : ∀ k, k < ops.size → k ≠ j → dstOf ops k ≠ some s := fun k hk' hkj hks => ((hk k hk').2.1 j hj s hjs).2 (Ne.symm hkj) |>.1 hks
    rcases ((hb j hj s hjs).2 hji).2 hs with ⟨he, hm⟩ | ⟨he, hm⟩
    · rw [sel_some s j hjs (hr j he) _ _ (List.mem_range.2 hj) (fun k hk' => huniq k (List.mem_range.1 hk'))]
      unfold can
      rw [sel_some s j hjs rfl _ _ hm (fun k hk' => huniq k (hd k hk').1)]
    · have hlj : l j = false := by
        cases hb' : l j with
        | false => rfl
        | true => rw [hc j i hb' he] at hl; cases hl
      rw [sel_none s _ _ (fun k hk' hlk hks => ?_)]
      · unfold can
        rw [sel_none s _ _ (fun k hk' _ hks => ?_)]
        by_cases hkj : k = j
        · subst hkj; exact hm hk'
        · exact huniq k (hd k hk').1 hkj hks
      · by_cases hkj : k = j
        · subst hkj; rw [hlj] at hlk; cases hlk
        · exact huniq k (List.mem_range.1 hk') hkj hks
  · have hno : ∀ k, k < ops.size → dstOf ops k ≠ some s := fun k hk' hks => hex ⟨k, hk', hks⟩
    rw [sel_none s _ _ (fun k hk' _ => hno k (List.mem_range.1 hk'))]
    unfold can
    rw [sel_none s _ _ (fun k hk' _ => hno k (hd k hk').1)]

theorem eval_of_get {a b : Act} {x : Operand} (h : ∀ s, x = .tmp s → a.tmps[s]? = b.tmps[s]?) : a.eval x = b.eval x := by
  cases x with
  | tmp t =>
    have := h t rfl
    simp only [Act.eval, Array.getD_eq_getD_getElem?, this]
  | _ => rfl

theorem exec_can {a b : Act} {i : Nat} {o : Oper} (ho : ops[i]? = some o) (hs : Region.noSelect ops = true) (h : ∀ s ∈ looks ops i, a.tmps[s]? = b.tmps[s]?) :
    execOp a.eval o = execOp b.eval o ∧ Region.wanted o (yielded ops a.tmps) = Region.wanted o (yielded ops b.tmps) := by
  have hl : looks ops i = o.looksAt ops := by simp [looks, ho]
  rw [hl] at h
  refine ⟨execOp_congr o (fun cs bb => Region.noSelect_spec hs i o cs bb ho) (fun x hx => eval_of_get fun s e => h s ?_), ?_⟩
  · subst e
    exact List.mem_append_left _ (List.mem_filterMap.2 ⟨.tmp s, by simpa using hx, rfl⟩)
  · unfold Region.wanted
    cases hg : o.guard with
    | none => rfl
    | some gw =>
      obtain ⟨g, want⟩ := gw
      have hy : yielded ops a.tmps g = yielded ops b.tmps g := by
        unfold yielded
        cases ht : (ops[g]?).bind (·.dst) with
        | none => rfl
        | some t =>
          have := h t (by simp [Oper.looksAt, hg, ht])
          simp [this]
      simp only [hy]

theorem steady {D : List (List Nat)} {id : Nat} {a : Act} {w : World} (hm : P.follows .mixedOrders = true) (hok : okB ops D = true) (S : (Nat → Bool) → (Nat → Value) → World → Prop) (v0 : Nat → Value)
    (h0 : S (fun _ => false) v0 w.drew)
    (hop : ∀ i o, ops[i]? = some o → ∀ l vals w, l i = false → (∀ j, edge ops i j = true → l j = true) → S l vals w →
      if Region.wanted o (yielded ops (can ops D vals i a).tmps) = true then Out P (can ops D vals i a).eval o w (fun v w' => S (upB l i) (upV vals i v) w') else S (upB l i) (upV vals i undef) w)
    (hend : ∀ l vals w, (∀ i, i < ops.size → l i = true) → S l vals w → Q .normal (sel (dstOf ops) vals (fun _ => true) (List.range ops.size) a) w) :
    (Code.region id ops true).wp P Q a w := by
  obtain ⟨hsl, hk⟩ := ok_parts hok
  refine wp_region_any hm ?_
  suffices H : ∀ fuel (listed : Array Bool) (l : Nat → Bool) (vals : Nat → Value) (w : World), listed.size = ops.size → (∀ j, j < ops.size → listed[j]? = some (l j)) → (∀ j k, l j = true → edge ops j k = true → l k = true) → undone l ops.size ≤ fuel → S l vals w →
      wpAny P .any ops Q fuel listed (sel (dstOf ops) vals l (List.range ops.size) a) w by
    have e : sel (dstOf ops) v0 (fun _ => false) (List.range ops.size) a = a := by
      have : ∀ (js : List Nat) (a : Act), sel (dstOf ops) v0 (fun _ => false) js a = a := by
        intro js
        induction js with
        | nil => intro a; rfl
        | cons j r ih => intro a; simp only [sel, Bool.false_eq_true, if_false]; exact ih a
      exact this _ _
    have := H ops.size (Array.replicate ops.size false) (fun _ => false) v0 w.drew (by simp) (fun j hj => by simp [hj]) (fun j k h => by cases h) (by rw [undone_false _ (fun _ => rfl)]; exact Nat.le_refl _) h0
    rw [e] at this
    exact this
  intro fuel
  have hdone : ∀ (listed : Array Bool) (l : Nat → Bool) (vals : Nat → Value) (w : World), listed.size = ops.size → (∀ j, j < ops.size → listed[j]? = some (l j)) → Region.ready .any ops listed = [] → S l vals w → Q .normal (sel (dstOf ops) vals l (List.range ops.size) a) w := by
    intro listed l vals w hsz hg hr hS
    have hall : ∀ i, i < ops.size → l i = true := by
      intro i hi
      cases hb : l i with
      | true => rfl
      | false =>
        obtain ⟨k, hk1, hk2, hk3⟩ := least_undone l ops.size ⟨i, hi, hb⟩
        obtain ⟨o, ho⟩ : ∃ o, ops[k]? = some o := ⟨_, Array.getElem?_eq_getElem hk1⟩
        have : k ∈ Region.ready .any ops listed := mem_ready.2 ⟨by simp [hg k hk1, hk2], o, ho, fun e he hbe => by
          have h1 := (hk k hk1).1 o ho e he hbe
          simp [hg e.on (by omega), hk3 e.on h1]⟩
        rw [hr] at this
        cases this
    have := hend l vals w hall hS
    rwa [sel_congr (vals' := vals) (l' := fun _ => true) (List.range ops.size) a (fun j hj => ⟨hall j (List.mem_range.1 hj), fun _ => rfl⟩)]
  induction fuel with
  | zero =>
    intro listed l vals w hsz hg hcl hf hS
    have hall := undone_zero l ops.size (by omega)
    have hr : Region.ready .any ops listed = [] := by
      rw [List.eq_nil_iff_forall_not_mem]
      intro k hkk
      obtain ⟨h1, o, ho, _⟩ := mem_ready.1 hkk
      have hlt : k < ops.size := (Array.getElem?_eq_some_iff.1 ho).1
      simp [hg k hlt, hall k hlt] at h1
    exact ⟨hr, hdone listed l vals w hsz hg hr hS⟩
  | succ fuel ih =>
    intro listed l vals w hsz hg hcl hf hS
    refine ⟨fun hr => hdone listed l vals w hsz hg hr hS, fun i hi => ?_⟩
    obtain ⟨h1, o, ho, hrd⟩ := mem_ready.1 hi
    have hlt : i < ops.size := (Array.getElem?_eq_some_iff.1 ho).1
    have hli : l i = false := by simpa [hg i hlt] using h1
    have hre : ∀ j, edge ops i j = true → l j = true := by
      intro j hj
      obtain ⟨o', ho', e, he, hb, hon⟩ := edge_iff.1 hj
      rw [ho] at ho'
      obtain rfl := Option.some.inj ho'
      have h2 := hrd e he hb
      have h3 := (hk i hlt).1 o ho e he hb
      rw [hon] at h2 h3
      simpa [hg j (by omega)] using h2
    have hcan := exec_can (a := sel (dstOf ops) vals l (List.range ops.size) a) (b := can ops D vals i a) ho hsl (can_get hok hlt hli hre hcl)
    have hstep := hop i o ho l vals w hli hre hS
    have hnext : ∀ v w', S (upB l i) (upV vals i v) w' → wpAny P .any ops Q fuel (listed.setIfInBounds i true) ((sel (dstOf ops) vals l (List.range ops.size) a).put o.dst v) w' := by
      intro v w' hS'
      have hdst : o.dst = dstOf ops i := by simp [dstOf, ho]
      rw [hdst, ← sel_upd i v hli (List.range ops.size) a List.nodup_range (List.mem_range.2 hlt) (fun k hk' hki d hd hkd => ((hk k (List.mem_range.1 hk')).2.1 i hlt d hd).2 (Ne.symm hki) |>.1 hkd)]
      refine ih _ (upB l i) _ w' (by simpa using hsz) (fun j hj => ?_) (fun j k hj hjk => ?_) (by have := undone_lt l i hli ops.size hlt; omega) hS'
      · by_cases hji : i = j
        · subst hji
          simp [upB, hsz, hlt]
        · rw [Array.getElem?_setIfInBounds_ne hji, hg j hj]
          have : j ≠ i := Ne.symm hji
          simp [upB, this]
      · by_cases hki : k = i
        · simp [upB, hki]
        · by_cases hji : j = i
          · subst hji
            have := hre k hjk
            simp [upB, this]
          · have h4 : l j = true := by simpa [upB, hji] using hj
            have := hcl j k h4 hjk
            simp [upB, this]
    unfold wpOp
    simp only [ho]
    rw [hcan.2]
    split
    · rename_i hw
      rw [if_pos hw] at hstep
      refine .inl ?_
      unfold Oper.wp
      rw [hcan.1]
      unfold Out at hstep
      generalize (execOp (can ops D vals i a).eval o).run P w = r at hstep
      cases r with
      | ok n w' =>
        cases n <;> simp only [] at hstep <;> simp only [Oper.upon]
        case value v => exact hnext v w' hstep
        case skip => exact hnext undef w' hstep
        case enter f args =>
          refine Calls.mono hstep fun e w'' he => ?_
          obtain ⟨v, rfl, hR⟩ := he
          exact hnext v w'' hR
      | halt x w' => cases x <;> simp only [] at hstep
    · rename_i hw
      rw [if_neg hw] at hstep
      exact hnext undef w hstep
end
end Go.Proofs.Ytfijbhacobjjgah.St
