/- Plain law of chapter 44: sharing out by rounds. -/
namespace Go.Proofs.Ytfijbhacobjjgab.Pl
/-- One round, one each as long as there is some. -/
def rnd : List Int → List Int → Int → List Int × Int
  | w :: ws, o :: os, l => if 0 < l ∧ o < w then ((o + 1) :: (rnd ws os (l - 1)).1, (rnd ws os (l - 1)).2) else (o :: (rnd ws os l).1, (rnd ws os l).2)
  | _, os, l => (os, l)
def opn : List Int → List Int → Int
  | w :: ws, o :: os => (if o < w then 1 else 0) + opn ws os
  | _, _ => 0
def lst (H : Int) : List Int → List Int → Int
  | w :: ws, o :: os => if o < w then min (w - o) (lst H ws os) else lst H ws os
  | _, _ => H
def add (r : Int) : List Int → List Int → List Int
  | w :: ws, o :: os => (if o < w then o + r else o) :: add r ws os
  | _, os => os
def total (l : List Int) : Int := l.foldr (· + ·) 0
theorem rnd_length : ∀ (ws os : List Int) (l : Int), (rnd ws os l).1.length = os.length
  | [], os, l => by simp [rnd]
  | w :: ws, [], l => by simp [rnd]
  | w :: ws, o :: os, l => by
    simp only [rnd]
    split <;> simp [rnd_length ws os]
theorem add_length (r : Int) : ∀ (ws os : List Int), (add r ws os).length = os.length
  | [], os => by simp [add]
  | w :: ws, [] => by simp [add]
  | w :: ws, o :: os => by simp [add, add_length r ws os]
theorem rnd_snoc (w o : Int) : ∀ (ws os : List Int) (l : Int), ws.length = os.length → rnd (ws ++ [w]) (os ++ [o]) l = if 0 < (rnd ws os l).2 ∧ o < w then ((rnd ws os l).1 ++ [o + 1], (rnd ws os l).2 - 1) else ((rnd ws os l).1 ++ [o], (rnd ws os l).2)
  | [], [], l, _ => by
    by_cases h : 0 < l ∧ o < w
    · simp only [List.nil_append, rnd, h, and_self, if_true]
    · simp only [List.nil_append, rnd, if_neg h]; exact (if_neg h).symm
  | v :: ws, p :: os, l, h => by
    have ih := fun l => rnd_snoc w o ws os l (by simpa using h)
    simp only [List.cons_append, rnd]
    by_cases h1 : 0 < l ∧ p < v
    · simp only [h1, and_self, if_true, ih]
      by_cases h2 : 0 < (rnd ws os (l - 1)).2 ∧ o < w
      · simp only [h2, and_self, if_true, List.cons_append]
      · simp only [if_neg h2, List.cons_append]
    · simp only [if_neg h1, ih]
      by_cases h2 : 0 < (rnd ws os l).2 ∧ o < w
      · simp only [h2, and_self, if_true, List.cons_append]
      · simp only [if_neg h2, List.cons_append]
theorem opn_snoc (w o : Int) : ∀ (ws os : List Int), ws.length = os.length → opn (ws ++ [w]) (os ++ [o]) = opn ws os + if o < w then 1 else 0
  | [], [], _ => by simp [opn]
  | v :: ws, p :: os, h => by
    have ih := opn_snoc w o ws os (by simpa using h)
    simp only [List.cons_append, opn]
    omega
theorem lst_snoc (H w o : Int) : ∀ (ws os : List Int), ws.length = os.length → lst H (ws ++ [w]) (os ++ [o]) = if o < w then min (lst H ws os) (w - o) else lst H ws os
  | [], [], _ => by simp [lst]; split <;> omega
  | v :: ws, p :: os, h => by
    have ih := lst_snoc H w o ws os (by simpa using h)
    simp only [List.cons_append, lst]
    rw [ih]
    split <;> split <;> omega
theorem add_snoc (r w o : Int) : ∀ (ws os : List Int), ws.length = os.length → add r (ws ++ [w]) (os ++ [o]) = add r ws os ++ [if o < w then o + r else o]
  | [], [], _ => by simp [add]
  | v :: ws, p :: os, h => by
    have ih := add_snoc r w o ws os (by simpa using h)
    simp [add, ih]
theorem opn_nonneg : ∀ (ws os : List Int), 0 ≤ opn ws os ∧ opn ws os ≤ os.length
  | [], os => by simp [opn]
  | w :: ws, [] => by simp [opn]
  | w :: ws, o :: os => by
    have := opn_nonneg ws os
    simp only [opn, List.length_cons]
    split <;> omega
/-- A round in which there is enough for all that are open. -/
theorem rnd_full : ∀ (ws os : List Int) (l : Int), opn ws os ≤ l → rnd ws os l = (add 1 ws os, l - opn ws os)
  | [], os, l, h => by simp [rnd, add, opn]
  | w :: ws, [], l, h => by simp [rnd, add, opn]
  | w :: ws, o :: os, l, h => by
    have hn := opn_nonneg ws os
    simp only [opn] at h
    simp only [rnd, add, opn]
    by_cases h1 : o < w
    · rw [if_pos h1] at h
      rw [if_pos ⟨by omega, h1⟩, if_pos h1, rnd_full ws os (l - 1) (by omega), if_pos h1]
      simp only [Prod.mk.injEq, true_and]
      omega
    · rw [if_neg h1] at h
      rw [if_neg (fun h => h1 h.2), if_neg h1, rnd_full ws os l (by omega), if_neg h1]
      simp only [Prod.mk.injEq, true_and]
      omega
/-- A round in which there isn't. -/
theorem rnd_short : ∀ (ws os : List Int) (l : Int), 0 ≤ l → l ≤ opn ws os → (rnd ws os l).2 = 0
  | [], os, l, h, h1 => by simp [rnd, opn] at *; omega
  | w :: ws, [], l, h, h1 => by simp [rnd, opn] at *; omega
  | w :: ws, o :: os, l, h, h1 => by
    have hn := opn_nonneg ws os
    simp only [opn] at h1
    simp only [rnd]
    by_cases h2 : o < w
    · rw [if_pos h2] at h1
      by_cases h3 : 0 < l
      · rw [if_pos ⟨h3, h2⟩]
        exact rnd_short ws os (l - 1) (by omega) (by omega)
      · rw [if_neg (fun h => h3 h.1)]
        exact rnd_short ws os l h (by omega)
    · rw [if_neg h2] at h1
      rw [if_neg (fun h => h2 h.2)]
      exact rnd_short ws os l h (by omega)
/-- Nothing left: nothing more. -/
theorem rnd_zero : ∀ (ws os : List Int) (l : Int), l ≤ 0 → rnd ws os l = (os, l)
  | [], os, l, h => by simp [rnd]
  | w :: ws, [], l, h => by simp [rnd]
  | w :: ws, o :: os, l, h => by
    simp only [rnd]
    rw [if_neg (by omega), rnd_zero ws os l h]
theorem rnd_none : ∀ (ws os : List Int) (l : Int), opn ws os = 0 → rnd ws os l = (os, l)
  | [], os, l, h => by simp [rnd]
  | w :: ws, [], l, h => by simp [rnd]
  | w :: ws, o :: os, l, h => by
    have hn := opn_nonneg ws os
    simp only [opn] at h
    simp only [rnd]
    by_cases h2 : o < w
    · rw [if_pos h2] at h; omega
    · rw [if_neg h2] at h
      rw [if_neg (fun h => h2 h.2), rnd_none ws os l (by omega)]
theorem rnd_le : ∀ (ws os : List Int) (l : Int), (rnd ws os l).2 ≤ l ∧ ((rnd ws os l).2 = l → rnd ws os l = (os, l))
  | [], os, l => by simp [rnd]
  | w :: ws, [], l => by simp [rnd]
  | w :: ws, o :: os, l => by
    simp only [rnd]
    split
    · have := rnd_le ws os (l - 1)
      simp only
      exact ⟨by omega, fun h => by omega⟩
    · have := rnd_le ws os l
      simp only
      exact ⟨this.1, fun h => by rw [this.2 h]⟩
/-- So many rounds. -/
def rnds (ws : List Int) : Nat → List Int × Int → List Int × Int
  | 0, s => s
  | n + 1, s => rnds ws n (rnd ws s.1 s.2)
theorem rnds_add (ws : List Int) : ∀ (n m : Nat) (s : List Int × Int), rnds ws (n + m) s = rnds ws m (rnds ws n s)
  | 0, m, s => by simp [rnds]
  | n + 1, m, s => by rw [Nat.succ_add]; simp only [rnds]; exact rnds_add ws n m _
theorem rnds_fix (ws : List Int) (s : List Int × Int) (h : rnd ws s.1 s.2 = s) : ∀ n, rnds ws n s = s
  | 0 => rfl
  | n + 1 => by simp only [rnds]; rw [h]; exact rnds_fix ws s h n
/-- What all rounds come to. -/
def Ends (ws : List Int) (s r : List Int × Int) : Prop := rnd ws r.1 r.2 = r ∧ ∃ n, rnds ws n s = r
theorem Ends.one {ws : List Int} {s r r' : List Int × Int} (h : Ends ws s r) (k : Ends ws s r') : r = r' := by
  obtain ⟨h1, n, hn⟩ := h
  obtain ⟨k1, m, hm⟩ := k
  have a := rnds_add ws n m s
  have b := rnds_add ws m n s
  rw [hn, rnds_fix ws r h1] at a
  rw [hm, rnds_fix ws r' k1, Nat.add_comm] at b
  exact a.symm.trans b
theorem lst_le (H : Int) : ∀ (ws os : List Int), lst H ws os ≤ H
  | [], os => by simp [lst]
  | w :: ws, [] => by simp [lst]
  | w :: ws, o :: os => by
    have := lst_le H ws os
    simp only [lst]
    split <;> omega
theorem lst_pos (H : Int) (hH : 0 < H) : ∀ (ws os : List Int), 0 < lst H ws os
  | [], os => by simpa [lst] using hH
  | w :: ws, [] => by simpa [lst] using hH
  | w :: ws, o :: os => by
    have := lst_pos H hH ws os
    simp only [lst]
    split <;> omega
theorem opn_add (H r : Int) (hr : 0 < r) : ∀ (ws os : List Int), r < lst H ws os → opn ws (add r ws os) = opn ws os ∧ lst H ws os - r ≤ lst H ws (add r ws os)
  | [], os, h => by simp [opn, lst]; omega
  | w :: ws, [], h => by simp [opn, lst, add]; omega
  | w :: ws, o :: os, h => by
    simp only [lst] at h
    simp only [opn, add, lst]
    by_cases h2 : o < w
    · rw [if_pos h2] at h
      have ih := opn_add H r hr ws os (by omega)
      rw [if_pos h2, if_pos h2, if_pos (by omega : o + r < w), if_pos h2, if_pos (by omega : o + r < w), ih.1]
      exact ⟨rfl, by omega⟩
    · rw [if_neg h2] at h
      have ih := opn_add H r hr ws os h
      rw [if_neg h2, if_neg h2, if_neg h2, if_neg h2, ih.1]
      exact ⟨by simp, by omega⟩
theorem add_add (H r : Int) (hr : 0 < r) : ∀ (ws os : List Int), r < lst H ws os → add 1 ws (add r ws os) = add (r + 1) ws os
  | [], os, h => by simp [add]
  | w :: ws, [], h => by simp [add]
  | w :: ws, o :: os, h => by
    simp only [lst] at h
    simp only [add]
    by_cases h2 : o < w
    · rw [if_pos h2] at h
      have ih := add_add H r hr ws os (by omega)
      rw [if_pos h2, if_pos (by omega : o + r < w), if_pos h2, ih]
      congr 1; omega
    · rw [if_neg h2] at h
      have ih := add_add H r hr ws os h
      rw [if_neg h2, if_neg h2, if_neg h2, ih]
theorem add_zero : ∀ (ws os : List Int), add 0 ws os = os
  | [], os => by simp [add]
  | w :: ws, [] => by simp [add]
  | w :: ws, o :: os => by simp [add, add_zero ws os]
/-- Many rounds at once. -/
theorem rnds_many (H : Int) (ws os : List Int) (l : Int) : ∀ (r : Nat), (r : Int) ≤ lst H ws os → (r : Int) * opn ws os ≤ l → rnds ws r (os, l) = (add r ws os, l - r * opn ws os)
  | 0, _, _ => by simp [rnds, add_zero]
  | r + 1, h1, h2 => by
    have hn := opn_nonneg ws os
    have h3 : ((r + 1 : Nat) : Int) * opn ws os = r * opn ws os + opn ws os := by rw [Int.natCast_succ, Int.add_mul, Int.one_mul]
    rw [h3] at h2 ⊢
    rw [rnds_add, rnds_many H ws os l r (by omega) (by omega)]
    simp only [rnds]
    by_cases h0 : r = 0
    · subst h0
      simp only [Int.natCast_zero, Int.zero_mul, Int.sub_zero, add_zero]
      rw [rnd_full ws os l (by omega)]
      simp
    · have hr : (0 : Int) < (r : Int) := by omega
      have ha := opn_add H r hr ws os (by omega)
      rw [rnd_full ws _ _ (by rw [ha.1]; omega), ha.1, add_add H r hr ws os (by omega)]
      simp only [Prod.mk.injEq]
      exact ⟨by simp, by omega⟩
/-- Levels. -/
def lev (m : Int) (ws : List Int) : List Int := ws.map fun w => min w m
theorem lev_add (H m r : Int) (hr : 0 ≤ r) : ∀ (ws : List Int), r ≤ lst H ws (lev m ws) → add r ws (lev m ws) = lev (m + r) ws
  | [], _ => rfl
  | w :: ws, h => by
    simp only [lev, List.map_cons, lst] at h
    simp only [lev, List.map_cons, add]
    by_cases h2 : min w m < w
    · rw [if_pos h2] at h
      have ih := lev_add H m r hr ws (by unfold lev; omega)
      unfold lev at ih
      rw [if_pos h2, ih]
      congr 1; omega
    · rw [if_neg h2] at h
      have ih := lev_add H m r hr ws (by unfold lev; omega)
      unfold lev at ih
      rw [if_neg h2, ih]
      congr 1; omega
theorem sum_add (r : Int) : ∀ (ws os : List Int), total (add r ws os) = total os + r * opn ws os
  | [], os => by simp [add, opn]
  | w :: ws, [] => by simp [add, opn]
  | w :: ws, o :: os => by
    have ih := sum_add r ws os
    simp only [add, opn]
    unfold total at *
    simp only [List.foldr_cons]
    rw [ih]
    split
    · rw [Int.mul_add]; omega
    · rw [Int.mul_add]; omega
theorem sum_rnd : ∀ (ws os : List Int) (l : Int), total (rnd ws os l).1 + (rnd ws os l).2 = total os + l
  | [], os, l => by simp [rnd]
  | w :: ws, [], l => by simp [rnd]
  | w :: ws, o :: os, l => by
    simp only [rnd]
    split
    · have ih := sum_rnd ws os (l - 1)
      unfold total at *
      simp only [List.foldr_cons]
      omega
    · have ih := sum_rnd ws os l
      unfold total at *
      simp only [List.foldr_cons]
      omega
/-- What is fair: of each place. -/
def fairAt (m w o : Int) : Prop := 0 ≤ o ∧ o ≤ w ∧ o ≤ m + 1 ∧ (o < w → m ≤ o)
theorem fair_lev (m : Int) (hm : 0 ≤ m) (ws : List Int) (hw : ∀ w ∈ ws, 0 ≤ w) (i : Nat) (hi : i < ws.length) : fairAt m (ws.getD i 0) ((lev m ws).getD i 0) := by
  have h := hw (ws.getD i 0) (by rw [List.getD_eq_getElem?_getD, List.getElem?_eq_getElem hi]; exact List.getElem_mem hi)
  have e : (lev m ws).getD i 0 = min (ws.getD i 0) m := by simp [lev, List.getD_eq_getElem?_getD, hi]
  rw [e]
  unfold fairAt
  refine ⟨by omega, by omega, by omega, by omega⟩
theorem fair_rnd (m : Int) (hm : 0 ≤ m) : ∀ (ws : List Int) (l : Int), (∀ w ∈ ws, 0 ≤ w) → ∀ i, i < ws.length → fairAt m (ws.getD i 0) ((rnd ws (lev m ws) l).1.getD i 0)
  | [], l, _, i, hi => by simp at hi
  | w :: ws, l, hw, i, hi => by
    have h0 := hw w (List.mem_cons_self ..)
    have hr := fun x hx => hw x (List.mem_cons_of_mem _ hx)
    simp only [lev, List.map_cons, rnd]
    have ih := fun l => fair_rnd m hm ws l hr
    unfold lev at ih
    cases i with
    | zero =>
      simp only [List.getD_cons_zero]
      unfold fairAt
      split <;> simp only [List.getD_cons_zero] <;> refine ⟨by omega, by omega, by omega, by omega⟩
    | succ i =>
      simp only [List.getD_cons_succ]
      split <;> exact ih _ i (by simpa using hi)
theorem opn_all : ∀ (ws os : List Int), opn ws os = 0 → ∀ i, i < ws.length → i < os.length → ws.getD i 0 ≤ os.getD i 0
  | [], os, _, i, hi, _ => by simp at hi
  | w :: ws, [], _, i, _, hi => by simp at hi
  | w :: ws, o :: os, h, i, hi, hj => by
    have hn := opn_nonneg ws os
    simp only [opn] at h
    have h2 : ¬ o < w := fun h2 => by rw [if_pos h2] at h; omega
    cases i with
    | zero => simp only [List.getD_cons_zero]; omega
    | succ i =>
      simp only [List.getD_cons_succ]
      exact opn_all ws os (by rw [if_neg h2] at h; omega) i (by simpa using hi) (by simpa using hj)
/-- What is known of what was shared out. -/
structure Shared (ws : List Int) (t : Int) (r : List Int) : Prop where
  length : r.length = ws.length
  ends : ∃ l, Ends ws (ws.map (fun _ => 0), t) (r, l)
  all_in : total r ≤ t
  fair : ∃ m, ∀ i, i < ws.length → fairAt m (ws.getD i 0) (r.getD i 0)
  all : (∃ i, i < ws.length ∧ r.getD i 0 < ws.getD i 0) → total r = t
/-- What holds between the rounds of the program. -/
structure Mid (ws : List Int) (t : Int) (o : List Int) (l : Int) : Prop where
  left : 0 ≤ l
  level : ∃ m, 0 ≤ m ∧ o = lev m ws
  whole : total o + l = t
  some : ∃ n, rnds ws n (ws.map (fun _ => 0), t) = (o, l)
theorem Mid.length {ws : List Int} {t : Int} {o : List Int} {l : Int} (h : Mid ws t o l) : o.length = ws.length := by
  obtain ⟨m, _, rfl⟩ := h.level
  simp [lev]
theorem Mid.first (ws : List Int) (hw : ∀ w ∈ ws, 0 ≤ w) (t : Int) (ht : 0 ≤ t) : Mid ws t (ws.map (fun _ => 0)) t := by
  refine ⟨ht, ⟨0, Int.le_refl _, ?_⟩, ?_, 0, rfl⟩
  · unfold lev
    exact List.map_congr_left fun w h => by have := hw w h; omega
  · have : ∀ ws : List Int, total (ws.map (fun _ => 0)) = 0 := by
      intro ws
      induction ws with
      | nil => rfl
      | cons w ws ih => unfold total at *; simp only [List.map_cons, List.foldr_cons]; omega
    rw [this]; omega
theorem Mid.step {ws : List Int} {t : Int} {o : List Int} {l H r : Int} (h : Mid ws t o l) (hr : 0 ≤ r) (h1 : r ≤ lst H ws o) (h2 : r * opn ws o ≤ l) : Mid ws t (add r ws o) (l - r * opn ws o) := by
  have hn := (opn_nonneg ws o).1
  obtain ⟨k, rfl⟩ : ∃ k : Nat, r = k := ⟨r.toNat, by omega⟩
  refine ⟨by omega, ?_, by rw [sum_add]; have := h.whole; omega, ?_⟩
  · obtain ⟨m, hm, rfl⟩ := h.level
    exact ⟨m + k, by omega, lev_add H m k hr ws h1⟩
  · obtain ⟨n, hn⟩ := h.some
    exact ⟨n + k, by rw [rnds_add, hn, rnds_many H ws o l k h1 h2]⟩
theorem Mid.done {ws : List Int} (hw : ∀ w ∈ ws, 0 ≤ w) {t : Int} {o : List Int} {l : Int} (h : Mid ws t o l) (hd : opn ws o = 0 ∨ l = 0) : Shared ws t o := by
  refine ⟨h.length, ⟨l, ?_, h.some⟩, by have := h.whole; have := h.left; omega, ?_, ?_⟩
  · rcases hd with hd | hd
    · exact rnd_none ws o l hd
    · exact rnd_zero ws o l (by omega)
  · obtain ⟨m, hm, rfl⟩ := h.level
    exact ⟨m, fair_lev m hm ws hw⟩
  · rintro ⟨i, hi, hlt⟩
    rcases hd with hd | hd
    · have := opn_all ws o hd i hi (by rw [h.length]; exact hi)
      omega
    · have := h.whole; omega
theorem Mid.last {ws : List Int} (hw : ∀ w ∈ ws, 0 ≤ w) {t : Int} {o : List Int} {l : Int} (h : Mid ws t o l) (hd : l ≤ opn ws o) : Shared ws t (rnd ws o l).1 := by
  have h0 := rnd_short ws o l h.left hd
  have hs := sum_rnd ws o l
  rw [h0, h.whole] at hs
  have he : rnd ws o l = ((rnd ws o l).1, 0) := by rw [← h0]
  refine ⟨by rw [rnd_length, h.length], ⟨0, rnd_zero _ _ _ (Int.le_refl _), ?_⟩, by omega, ?_, fun _ => by omega⟩
  · obtain ⟨n, hn⟩ := h.some
    exact ⟨n + 1, by rw [rnds_add, hn]; simp only [rnds]; exact he⟩
  · obtain ⟨m, hm, rfl⟩ := h.level
    exact ⟨m, fair_rnd m hm ws l hw⟩
end Go.Proofs.Ytfijbhacobjjgab.Pl
