/- Plain law of chapter 11: chains of places by a hash. -/
namespace Go.Proofs.Ytfcpjblogeofpac.Pl
set_option linter.unusedSimpArgs false
/-- The first one of a chain, or none. -/
def hd : List Nat → Int
  | [] => -1
  | p :: _ => p
/-- Each leads to the next. -/
def Walks (ahead : List Int) : List Nat → Prop
  | [] => True
  | p :: c => ahead.getD p 0 = hd c ∧ Walks ahead c
theorem Walks.set {ahead : List Int} {p : Nat} {v : Int} : ∀ {c : List Nat}, Walks ahead c → p ∉ c → Walks (ahead.set p v) c
  | [], _, _ => trivial
  | q :: c, h, hp => by
    have h1 : p ≠ q := fun e => hp (e ▸ List.mem_cons_self ..)
    refine ⟨?_, Walks.set h.2 (fun k => hp (List.mem_cons_of_mem _ k))⟩
    rw [← h.1]
    simp [List.getD_eq_getElem?_getD, List.getElem?_set, h1]
structure Chains (hsh : Nat → Nat) (rs : List Nat) (heads ahead : List Int) : Prop where
  heads : ∀ h, h < 1024 → heads.getD h 0 = hd (rs.filter fun p => hsh p == h)
  walks : ∀ h, h < 1024 → Walks ahead (rs.filter fun p => hsh p == h)
theorem Chains.note {hsh : Nat → Nat} {rs : List Nat} {heads ahead : List Int} (h : Chains hsh rs heads ahead) (p : Nat) (hp : p ∉ rs) (hlt : p < ahead.length) (hl : heads.length = 1024) (hh : hsh p < 1024) :
    Chains hsh (p :: rs) (heads.set (hsh p) p) (ahead.set p (heads.getD (hsh p) 0)) := by
  have hn : ∀ k, p ∉ rs.filter fun q => hsh q == k := fun k e => hp ((List.mem_filter.1 e).1)
  refine ⟨fun k hk => ?_, fun k hk => ?_⟩
  · by_cases e : hsh p = k
    · subst e
      simp only [List.filter_cons, beq_self_eq_true, if_true, hd]
      simp [List.getD_eq_getElem?_getD, List.getElem?_set, hl, hh]
    · have e2 : (hsh p == k) = false := by simp [e]
      simp only [List.filter_cons, e2]
      rw [if_neg (by simp), ← h.heads k hk]
      simp [List.getD_eq_getElem?_getD, List.getElem?_set, e]
  · by_cases e : hsh p = k
    · subst e
      simp only [List.filter_cons, beq_self_eq_true, if_true]
      refine ⟨?_, Walks.set (h.walks _ hh) (hn _)⟩
      rw [← h.heads _ hh]
      simp only [List.getD_eq_getElem?_getD, List.getElem?_set, if_true]
      rw [if_pos hlt]
      rfl
    · have e2 : (hsh p == k) = false := by simp [e]
      simp only [List.filter_cons, e2]
      rw [if_neg (by simp)]
      exact Walks.set (h.walks k hk) (hn k)
theorem Chains.first (hsh : Nat → Nat) (heads ahead : List Int) (h : ∀ k, k < 1024 → heads.getD k 0 = -1) : Chains hsh [] heads ahead := ⟨fun k hk => h k hk, fun _ _ => trivial⟩
/-- A match more. -/
def upd (sm : Nat → Nat → Nat) (at_ : Nat) (a : Int × Int) (p : Nat) : Int × Int :=
  if at_ ≤ p then a else if a.2 < (sm p at_ : Int) ∨ ((sm p at_ : Int) = a.2 ∧ (at_ : Int) - (p : Int) < a.1) then ((at_ : Int) - (p : Int), (sm p at_ : Int)) else a
def look (sm : Nat → Nat → Nat) (th : Nat → Bool) (at_ : Nat) : List Nat → Nat → Int × Int → Int × Int
  | [], _, a => a
  | _ :: _, 0, a => a
  | p :: r, d + 1, a => if th p then look sm th at_ r d (upd sm at_ a p) else look sm th at_ r (d + 1) a
theorem look_zero (sm : Nat → Nat → Nat) (th : Nat → Bool) (at_ : Nat) (l : List Nat) (a : Int × Int) : look sm th at_ l 0 a = a := by cases l <;> rfl
theorem look_filter (sm : Nat → Nat → Nat) (th f : Nat → Bool) (at_ : Nat) (hf : ∀ p, th p = true → f p = true) : ∀ (l : List Nat) (d : Nat) (a : Int × Int), look sm th at_ (l.filter f) d a = look sm th at_ l d a
  | [], _, _ => rfl
  | p :: r, 0, a => by rw [look_zero, look_zero]
  | p :: r, d + 1, a => by
    by_cases h : th p = true
    · rw [List.filter_cons, if_pos (hf p h)]
      simp only [look]
      rw [if_pos h, if_pos h]
      exact look_filter sm th f at_ hf r d _
    · by_cases h2 : f p = true
      · rw [List.filter_cons, if_pos h2]
        simp only [look]
        rw [if_neg h, if_neg h]
        exact look_filter sm th f at_ hf r (d + 1) a
      · rw [List.filter_cons, if_neg h2]
        simp only [look]
        rw [if_neg h]
        exact look_filter sm th f at_ hf r (d + 1) a
/-- All below a place noted, and looked for it: the greatest. -/
def down : Nat → List Nat
  | 0 => []
  | n + 1 => n :: down n
def best3 (sm : Nat → Nat → Nat) (k : Nat) : Nat → Nat
  | 0 => 0
  | n + 1 => if 3 ≤ sm n k then max (best3 sm k n) (sm n k) else best3 sm k n
theorem down_length : ∀ n, (down n).length = n
  | 0 => rfl
  | n + 1 => by simp [down, down_length n]
theorem look_best (sm : Nat → Nat → Nat) (th : Nat → Bool) (k : Nat) (hth : ∀ p, p < k → (th p = true ↔ 3 ≤ sm p k)) (g : Nat → Bool) (hg : ∀ p, 3 ≤ sm p k → g p = true) :
    ∀ (n d : Nat) (a : Int × Int), n ≤ k → n ≤ d → ((a = (0, 0)) ∨ (∃ p, n ≤ p ∧ p < k ∧ a = ((k : Int) - p, (sm p k : Int)) ∧ 3 ≤ sm p k)) →
      ∃ r, look sm th k ((down n).filter g) d a = r ∧ r.2 = max a.2 (best3 sm k n) ∧ ((r = (0, 0)) ∨ (∃ p, p < k ∧ r = ((k : Int) - p, (sm p k : Int)) ∧ 3 ≤ sm p k))
  | 0, d, a, _, _, ha => ⟨a, by simp [down, look], by rcases ha with rfl | ⟨p, _, _, rfl, _⟩ <;> simp [best3] <;> omega, by rcases ha with h | ⟨p, _, h1, h2, h3⟩; exact .inl h; exact .inr ⟨p, h1, h2, h3⟩⟩
  | n + 1, 0, a, _, hd, _ => by omega
  | n + 1, d + 1, a, hn, hd, ha => by
    by_cases hs : 3 ≤ sm n k
    · have ht := (hth n (by omega)).2 hs
      simp only [down, List.filter_cons]
      rw [if_pos (hg n hs)]
      simp only [look]
      rw [if_pos ht]
      have hu : upd sm k a n = if a.2 < (sm n k : Int) then ((k : Int) - n, (sm n k : Int)) else a := by
        unfold upd
        rw [if_neg (by omega)]
        rcases ha with rfl | ⟨p, h1, h2, rfl, h3⟩
        · simp only
          rw [if_pos (by omega), if_pos (by omega)]
        · simp only
          by_cases h4 : (sm p k : Int) < (sm n k : Int)
          · rw [if_pos (.inl h4), if_pos h4]
          · rw [if_neg (by omega), if_neg h4]
      rw [hu]
      simp only [best3]
      rw [if_pos hs]
      by_cases h4 : a.2 < (sm n k : Int)
      · rw [if_pos h4]
        obtain ⟨r, e1, e2, e3⟩ := look_best sm th k hth g hg n d ((k : Int) - n, (sm n k : Int)) (by omega) (by omega) (.inr ⟨n, Nat.le_refl _, by omega, rfl, hs⟩)
        exact ⟨r, e1, by rw [e2]; simp only; omega, e3⟩
      · rw [if_neg h4]
        obtain ⟨r, e1, e2, e3⟩ := look_best sm th k hth g hg n d a (by omega) (by omega) (by rcases ha with h | ⟨p, h0, h1⟩; exact .inl h; exact .inr ⟨p, by omega, h1⟩)
        exact ⟨r, e1, by rw [e2]; omega, e3⟩
    · have ht : ¬ th n = true := fun h => hs ((hth n (by omega)).1 h)
      have ha' : ((a = (0, 0)) ∨ (∃ p, n ≤ p ∧ p < k ∧ a = ((k : Int) - p, (sm p k : Int)) ∧ 3 ≤ sm p k)) := by rcases ha with h | ⟨p, h0, h1⟩; exact .inl h; exact .inr ⟨p, by omega, h1⟩
      simp only [down, List.filter_cons, best3]
      rw [if_neg hs]
      by_cases h2 : g n = true
      · rw [if_pos h2]
        simp only [look]
        rw [if_neg ht]
        exact look_best sm th k hth g hg n (d + 1) a (by omega) (by omega) ha'
      · rw [if_neg h2]
        exact look_best sm th k hth g hg n (d + 1) a (by omega) (by omega) ha'
end Go.Proofs.Ytfcpjblogeofpac.Pl
