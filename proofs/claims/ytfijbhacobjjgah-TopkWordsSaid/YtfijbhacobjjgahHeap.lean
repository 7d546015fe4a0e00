/- Plain law of heaps: what goes up and down in a list that is a heap; what comes out is the least. -/
import Derived.WalkKit
namespace Go.Proofs.Ytfijbhacobjjgah.Hp
set_option linter.unusedSimpArgs false
set_option linter.unusedVariables false
section
variable {α : Type} (lt : α → α → Bool) (d : α)
def swp (l : List α) (i j : Nat) : List α := (l.set i (l.getD j d)).set j (l.getD i d)
theorem swp_len (l : List α) (i j : Nat) : (swp d l i j).length = l.length := by simp [swp]
theorem swp_get (l : List α) (i j k : Nat) (hi : i < l.length) (hj : j < l.length) : (swp d l i j).getD k d = if k = j then l.getD i d else if k = i then l.getD j d else l.getD k d := by
  unfold swp
  simp only [List.getD_eq_getElem?_getD, List.getElem?_set, List.length_set]
  by_cases h1 : j = k
  · subst h1
    simp [hj]
  · rw [if_neg h1, if_neg (Ne.symm h1)]
    by_cases h2 : i = k
    · subst h2
      simp [hi]
    · rw [if_neg h2, if_neg (Ne.symm h2)]
theorem swp_perm (l : List α) (i j : Nat) (hi : i < l.length) (hj : j < l.length) : (swp d l i j).Perm l := by
  have h := Array.swap_perm (xs := l.toArray) (i := i) (j := j) (by simpa using hi) (by simpa using hj)
  have e : (l.toArray.swap i j (by simpa using hi) (by simpa using hj)).toList = swp d l i j := by
    simp [Array.swap, swp, List.getD_eq_getElem?_getD, hi, hj]
  have := h.toList
  rw [e] at this
  exact this
theorem swp_take (l : List α) (i n : Nat) : (swp d l i n).take n = (l.set i (l.getD n d)).take n := by
  unfold swp
  rw [List.take_set_of_le (Nat.le_refl _)]
/-- One goes up from j. -/
def up (l : List α) (j : Nat) : List α :=
  if h : j = 0 then l
  else if lt (l.getD j d) (l.getD ((j - 1) / 2) d) then up (swp d l ((j - 1) / 2) j) ((j - 1) / 2) else l
termination_by j
decreasing_by omega
/-- The child that it is held against. -/
def chd (l : List α) (i n : Nat) : Nat := if 2 * i + 2 < n ∧ lt (l.getD (2 * i + 2) d) (l.getD (2 * i + 1) d) = true then 2 * i + 2 else 2 * i + 1
theorem chd_in (l : List α) (i n : Nat) (h : 2 * i + 1 < n) : i < chd lt d l i n ∧ chd lt d l i n < n ∧ (chd lt d l i n - 1) / 2 = i := by
  unfold chd; split <;> omega
/-- One goes down from i, among n. -/
def down (l : List α) (i n : Nat) : List α :=
  if h : 2 * i + 1 < n then
    have : i < chd lt d l i n ∧ chd lt d l i n < n ∧ (chd lt d l i n - 1) / 2 = i := chd_in lt d l i n h
    if lt (l.getD (chd lt d l i n) d) (l.getD i d) then down (swp d l i (chd lt d l i n)) (chd lt d l i n) n else l
  else l
termination_by n - i
decreasing_by omega
/-- All places below i go down. -/
def ini (l : List α) : Nat → List α
  | 0 => l
  | i + 1 => ini (down lt d l i l.length) i
theorem up_zero (l : List α) : up lt d l 0 = l := by rw [up, dif_pos rfl]
theorem up_go {l : List α} {j : Nat} (h : j ≠ 0) (hl : lt (l.getD j d) (l.getD ((j - 1) / 2) d) = true) : up lt d l j = up lt d (swp d l ((j - 1) / 2) j) ((j - 1) / 2) := by rw [up, dif_neg h, if_pos hl]
theorem up_end {l : List α} {j : Nat} (hl : lt (l.getD j d) (l.getD ((j - 1) / 2) d) = false) : up lt d l j = l := by
  rw [up]
  split
  · rfl
  · rw [if_neg (by rw [hl]; decide)]
theorem down_end {l : List α} {i n : Nat} (h : ¬ 2 * i + 1 < n) : down lt d l i n = l := by rw [down, dif_neg h]
theorem down_stay {l : List α} {i n : Nat} (h : 2 * i + 1 < n) (hl : lt (l.getD (chd lt d l i n) d) (l.getD i d) = false) : down lt d l i n = l := by rw [down, dif_pos h, if_neg (by rw [hl]; decide)]
theorem down_go {l : List α} {i n : Nat} (h : 2 * i + 1 < n) (hl : lt (l.getD (chd lt d l i n) d) (l.getD i d) = true) : down lt d l i n = down lt d (swp d l i (chd lt d l i n)) (chd lt d l i n) n := by rw [down, dif_pos h, if_pos hl]
theorem up_perm : ∀ (j : Nat) (l : List α), j < l.length → (up lt d l j).Perm l ∧ (up lt d l j).length = l.length := by
  intro j
  induction j using Nat.strongRecOn with
  | _ j ih =>
    intro l hj
    by_cases h : j = 0
    · subst h; rw [up_zero]; exact ⟨List.Perm.refl _, rfl⟩
    · cases hl : lt (l.getD j d) (l.getD ((j - 1) / 2) d) with
      | false => rw [up_end lt d hl]; exact ⟨List.Perm.refl _, rfl⟩
      | true =>
        rw [up_go lt d h hl]
        obtain ⟨i1, i2⟩ := ih ((j - 1) / 2) (by omega) (swp d l ((j - 1) / 2) j) (by rw [swp_len]; omega)
        exact ⟨i1.trans (swp_perm d l _ _ (by omega) hj), by rw [i2, swp_len]⟩
theorem down_perm (n : Nat) : ∀ (m i : Nat) (l : List α), n - i = m → n ≤ l.length → (down lt d l i n).Perm l ∧ (down lt d l i n).length = l.length ∧ ∀ k, n ≤ k → (down lt d l i n).getD k d = l.getD k d := by
  intro m
  induction m using Nat.strongRecOn with
  | _ m ih =>
    intro i l hm hn
    by_cases h : 2 * i + 1 < n
    · have hc := chd_in lt d l i n h
      cases hl : lt (l.getD (chd lt d l i n) d) (l.getD i d) with
      | false => rw [down_stay lt d h hl]; exact ⟨List.Perm.refl _, rfl, fun _ _ => rfl⟩
      | true =>
        rw [down_go lt d h hl]
        obtain ⟨i1, i2, i3⟩ := ih (n - chd lt d l i n) (by omega) (chd lt d l i n) (swp d l i (chd lt d l i n)) rfl (by rw [swp_len]; exact hn)
        refine ⟨i1.trans (swp_perm d l _ _ (by omega) (by omega)), by rw [i2, swp_len], fun k hk => ?_⟩
        rw [i3 k hk, swp_get d l _ _ _ (by omega) (by omega), if_neg (by omega), if_neg (by omega)]
    · rw [down_end lt d h]; exact ⟨List.Perm.refl _, rfl, fun _ _ => rfl⟩
/-- A total order without equals of its own: what the heap asks. -/
structure Ord (lt : α → α → Bool) : Prop where
  asym : ∀ a b, lt a b = true → lt b a = false
  trans : ∀ a b c, lt b a = false → lt c b = false → lt c a = false
variable {lt}
/-- Each is no less than the one above it, from i on, among n. -/
def Heap (lt : α → α → Bool) (d : α) (l : List α) (i n : Nat) : Prop := ∀ j, 1 ≤ j → j < n → i ≤ (j - 1) / 2 → lt (l.getD j d) (l.getD ((j - 1) / 2) d) = false
theorem up_heap (ho : Ord lt) (n : Nat) : ∀ (j : Nat) (l : List α), j < n → n ≤ l.length →
    (∀ k, 1 ≤ k → k < n → k ≠ j → lt (l.getD k d) (l.getD ((k - 1) / 2) d) = false) →
    (1 ≤ j → ∀ k, k < n → 1 ≤ k → (k - 1) / 2 = j → lt (l.getD k d) (l.getD ((j - 1) / 2) d) = false) → Heap lt d (up lt d l j) 0 n := by
  intro j
  induction j using Nat.strongRecOn with
  | _ j ih =>
    intro l hj hn h1 h2
    by_cases h : j = 0
    · subst h
      rw [up_zero]
      exact fun k hk hkn _ => h1 k hk hkn (by omega)
    · cases hl : lt (l.getD j d) (l.getD ((j - 1) / 2) d) with
      | false =>
        rw [up_end lt d hl]
        intro k hk hkn _
        by_cases e : k = j
        · subst e; exact hl
        · exact h1 k hk hkn e
      | true =>
        rw [up_go lt d h hl]
        obtain ⟨p, hp⟩ : ∃ p, (j - 1) / 2 = p := ⟨_, rfl⟩
        rw [hp] at hl h2 ⊢
        have hpj : p < j := by omega
        have hg := fun k => swp_get d l p j k (by omega) (by omega)
        refine ih p hpj (swp d l p j) (by omega) (by rw [swp_len]; exact hn) ?_ ?_
        · intro k hk hkn hkp
          rw [hg, hg]
          by_cases e1 : k = j
          · subst e1
            rw [if_pos rfl, hp, if_neg (by omega), if_pos rfl]
            exact ho.asym _ _ hl
          · rw [if_neg e1, if_neg hkp]
            by_cases e2 : (k - 1) / 2 = j
            · rw [if_pos e2]
              exact h2 (by omega) k hkn hk e2
            · rw [if_neg e2]
              by_cases e3 : (k - 1) / 2 = p
              · rw [if_pos e3]
                have := h1 k hk hkn e1
                rw [e3] at this
                exact ho.trans _ _ _ (ho.asym _ _ hl) this
              · rw [if_neg e3]
                exact h1 k hk hkn e1
        · intro hp1 k hkn hk e3
          rw [hg, hg]
          have hpp : lt (l.getD p d) (l.getD ((p - 1) / 2) d) = false := h1 p hp1 (by omega) (by omega)
          rw [if_neg (by omega : ¬ (p - 1) / 2 = j), if_neg (by omega : ¬ (p - 1) / 2 = p)]
          by_cases e1 : k = j
          · subst e1
            rw [if_pos rfl]
            exact hpp
          · rw [if_neg e1, if_neg (by omega)]
            have := h1 k hk hkn e1
            rw [e3] at this
            exact ho.trans _ _ _ hpp this
theorem down_heap (ho : Ord lt) (n i0 : Nat) : ∀ (m i : Nat) (l : List α), n - i = m → n ≤ l.length → i0 ≤ i →
    (∀ k, 1 ≤ k → k < n → i0 ≤ (k - 1) / 2 → (k - 1) / 2 ≠ i → lt (l.getD k d) (l.getD ((k - 1) / 2) d) = false) →
    (1 ≤ i → i0 ≤ (i - 1) / 2 → ∀ k, k < n → 1 ≤ k → (k - 1) / 2 = i → lt (l.getD k d) (l.getD ((i - 1) / 2) d) = false) → Heap lt d (down lt d l i n) i0 n := by
  intro m
  induction m using Nat.strongRecOn with
  | _ m ih =>
    intro i l hm hn hi h1 h2
    by_cases h : 2 * i + 1 < n
    · have hc := chd_in lt d l i n h
      have hmin : ∀ k, k < n → 1 ≤ k → (k - 1) / 2 = i → lt (l.getD k d) (l.getD (chd lt d l i n) d) = false := by
        intro k hk hk1 hki
        have hirr : ∀ a, lt a a = false := fun a => by
          cases e : lt a a with
          | false => rfl
          | true => have := ho.asym _ _ e; rw [e] at this; cases this
        unfold chd
        by_cases hb : 2 * i + 2 < n ∧ lt (l.getD (2 * i + 2) d) (l.getD (2 * i + 1) d) = true
        · rw [if_pos hb]
          rcases (by omega : k = 2 * i + 1 ∨ k = 2 * i + 2) with rfl | rfl
          · exact ho.asym _ _ hb.2
          · exact hirr _
        · rw [if_neg hb]
          rcases (by omega : k = 2 * i + 1 ∨ k = 2 * i + 2) with rfl | rfl
          · exact hirr _
          · cases e : lt (l.getD (2 * i + 2) d) (l.getD (2 * i + 1) d) with
            | false => rfl
            | true => exact absurd ⟨hk, e⟩ hb
      cases hl : lt (l.getD (chd lt d l i n) d) (l.getD i d) with
      | false =>
        rw [down_stay lt d h hl]
        intro k hk hkn hki
        by_cases e : (k - 1) / 2 = i
        · rw [e]
          exact ho.trans _ _ _ hl (hmin k hkn hk e)
        · exact h1 k hk hkn hki e
      | true =>
        rw [down_go lt d h hl]
        obtain ⟨c, hcc⟩ : ∃ c, chd lt d l i n = c := ⟨_, rfl⟩
        rw [hcc] at hl hmin hc ⊢
        have hg := fun k => swp_get d l i c k (by omega) (by omega)
        refine ih (n - c) (by omega) c (swp d l i c) rfl (by rw [swp_len]; exact hn) (by omega) ?_ ?_
        · intro k hk hkn hki hkc
          rw [hg, hg]
          by_cases e1 : k = c
          · subst e1
            rw [if_pos rfl, hc.2.2, if_neg (by omega), if_pos rfl]
            exact ho.asym _ _ hl
          · rw [if_neg e1]
            by_cases e2 : k = i
            · subst e2
              rw [if_pos rfl, if_neg (by omega), if_neg (by omega)]
              exact h2 hk hki c hc.2.1 (by omega) hc.2.2
            · rw [if_neg e2, if_neg hkc]
              by_cases e3 : (k - 1) / 2 = i
              · rw [if_pos e3]
                exact hmin k hkn hk e3
              · rw [if_neg e3]
                exact h1 k hk hkn hki e3
        · intro hc1 hci k hkn hk e3
          rw [hg, hg, hc.2.2, if_neg (by omega : ¬ i = c), if_pos rfl, if_neg (by omega : ¬ k = c), if_neg (by omega : ¬ k = i)]
          have := h1 k hk hkn (by omega) (by omega)
          rw [e3] at this
          exact this
    · rw [down_end lt d h]
      intro k hk hkn hki
      exact h1 k hk hkn hki (by omega)
theorem heap_least (ho : Ord lt) {l : List α} {n : Nat} (h : Heap lt d l 0 n) : ∀ k, k < n → lt (l.getD k d) (l.getD 0 d) = false := by
  intro k
  induction k using Nat.strongRecOn with
  | _ k ih =>
    intro hk
    by_cases e : k = 0
    · subst e
      cases e : lt (l.getD 0 d) (l.getD 0 d) with
      | false => rfl
      | true => have := ho.asym _ _ e; rw [e] at this; cases this
    · exact ho.trans _ _ _ (ih ((k - 1) / 2) (by omega) (by omega)) (h k (by omega) hk (by omega))
theorem ini_heap (ho : Ord lt) (n : Nat) : ∀ (i : Nat) (l : List α), l.length = n → Heap lt d l i n → Heap lt d (ini lt d l i) 0 n ∧ (ini lt d l i).Perm l
  | 0, l, hl, h => ⟨h, List.Perm.refl _⟩
  | i + 1, l, hl, h => by
    obtain ⟨p1, p2, _⟩ := down_perm lt d n (n - i) i l rfl (by omega)
    have hh : Heap lt d (down lt d l i n) i n := down_heap d ho n i (n - i) i l rfl (by omega) (Nat.le_refl _) (fun k hk hkn hki hne => h k hk hkn (by omega)) (fun _ hii => by omega)
    obtain ⟨q1, q2⟩ := ini_heap ho n i (down lt d l i n) (by rw [p2, hl]) hh
    simp only [ini]
    rw [hl]
    exact ⟨q1, q2.trans p1⟩
/-- One more in a heap. -/
def psh (lt : α → α → Bool) (d : α) (l : List α) (x : α) : List α := up lt d (l ++ [x]) l.length
/-- The least one taken. -/
def pop (lt : α → α → Bool) (d : α) (l : List α) : List α := (down lt d (swp d l 0 (l.length - 1)) 0 (l.length - 1)).take (l.length - 1)
theorem psh_ok (ho : Ord lt) {l : List α} (x : α) (h : Heap lt d l 0 l.length) : Heap lt d (psh lt d l x) 0 (l.length + 1) ∧ (psh lt d l x).Perm (x :: l) ∧ (psh lt d l x).length = l.length + 1 := by
  obtain ⟨p1, p2⟩ := up_perm lt d l.length (l ++ [x]) (by simp)
  refine ⟨?_, p1.trans (List.perm_append_singleton x l), by unfold psh; rw [p2]; simp⟩
  have hg : ∀ k, k < l.length → (l ++ [x]).getD k d = l.getD k d := fun k hk => by
    simp [List.getD_eq_getElem?_getD, List.getElem?_append_left hk]
  refine up_heap d ho (l.length + 1) l.length _ (by omega) (by simp) ?_ ?_
  · intro k hk hkn hkj
    rw [hg k (by omega), hg _ (by omega)]
    exact h k hk (by omega) (by omega)
  · intro _ k hkn hk e
    omega
theorem pop_ok (ho : Ord lt) {l : List α} (hl : l ≠ []) (h : Heap lt d l 0 l.length) : Heap lt d (pop lt d l) 0 (l.length - 1) ∧ (l.getD 0 d :: pop lt d l).Perm l ∧ (pop lt d l).length = l.length - 1 ∧ (down lt d (swp d l 0 (l.length - 1)) 0 (l.length - 1)).getD (l.length - 1) d = l.getD 0 d := by
  have hlen : 0 < l.length := List.length_pos_iff.2 hl
  obtain ⟨n, hn⟩ : ∃ n, l.length - 1 = n := ⟨_, rfl⟩
  unfold pop
  rw [hn]
  have sl := swp_len d l 0 n
  obtain ⟨p1, p2, p3⟩ := down_perm lt d n (n - 0) 0 (swp d l 0 n) rfl (by rw [sl]; omega)
  have hlast := p3 n (Nat.le_refl _)
  rw [swp_get d l 0 n n (by omega) (by omega), if_pos rfl] at hlast
  have hsg := fun k => swp_get d l 0 n k (by omega) (by omega)
  have hh : Heap lt d (down lt d (swp d l 0 n) 0 n) 0 n := by
    refine down_heap d ho n 0 (n - 0) 0 _ rfl (by rw [sl]; omega) (Nat.le_refl _) ?_ (fun h1 => by omega)
    intro k hk hkn _ hne
    rw [hsg, hsg, if_neg (by omega), if_neg (by omega), if_neg (by omega), if_neg hne]
    exact h k hk (by omega) (by omega)
  obtain ⟨D, hD⟩ : ∃ D, down lt d (swp d l 0 n) 0 n = D := ⟨_, rfl⟩
  rw [hD] at p1 p2 hlast hh ⊢
  have hDl : D.length = n + 1 := by rw [p2, sl]; omega
  have htl : (D.take n).length = n := by rw [List.length_take]; omega
  have hsp : D = D.take n ++ [l.getD 0 d] := by
    apply List.ext_getElem?
    intro k
    rcases Nat.lt_trichotomy k n with hk | hk | hk
    · rw [List.getElem?_append_left (by omega), List.getElem?_take, if_pos hk]
    · subst hk
      rw [List.getElem?_append_right (by omega), htl, Nat.sub_self]
      rw [List.getD_eq_getElem?_getD, List.getElem?_eq_getElem (by omega)] at hlast
      rw [List.getElem?_eq_getElem (by omega)]
      simp only [Option.getD_some] at hlast
      simp [hlast]
    · rw [List.getElem?_eq_none (by omega), List.getElem?_eq_none (by simp; omega)]
  refine ⟨?_, ?_, htl, hlast⟩
  · intro k hk hkn hki
    have hg : ∀ k, k < n → (D.take n).getD k d = D.getD k d := fun k hk => by
      simp [List.getD_eq_getElem?_getD, List.getElem?_take, hk]
    rw [hg k hkn, hg _ (by omega)]
    exact hh k hk hkn hki
  · have e1 : (l.getD 0 d :: D.take n).Perm D := by
      conv => rhs; rw [hsp]
      exact (List.perm_append_singleton _ _).symm
    exact e1.trans (p1.trans (swp_perm d l 0 n (by omega) (by omega)))
end
end Go.Proofs.Ytfijbhacobjjgah.Hp
