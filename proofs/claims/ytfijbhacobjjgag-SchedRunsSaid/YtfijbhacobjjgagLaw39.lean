/- Plain law of chapter 39: acts that wait, as a list that is sorted and as a heap; delays. -/
import Derived.Test.YtfijbhacobjjgagHeap
namespace Go.Proofs.Ytfijbhacobjjgag.Pl
open Go.Proofs.Ytfijbhacobjjgag.Hp
set_option linter.unusedSimpArgs false
set_option linter.unusedVariables false
/-- An act that waits: its time, its order, the act. -/
structure En (α : Type) where
  t : Int
  o : Int
  a : α
section
variable {α : Type}
def elt (x y : En α) : Bool := decide (x.t < y.t) || (decide (x.t = y.t) && decide (x.o < y.o))
theorem elt_iff (x y : En α) : elt x y = true ↔ x.t < y.t ∨ (x.t = y.t ∧ x.o < y.o) := by simp [elt]
theorem elt_not (x y : En α) : elt x y = false ↔ ¬ (x.t < y.t ∨ (x.t = y.t ∧ x.o < y.o)) := by rw [← elt_iff]; simp
theorem elt_ord : Ord (elt (α := α)) := ⟨fun a b h => by rw [elt_iff] at h; rw [elt_not]; omega, fun a b c h k => by rw [elt_not] at h k ⊢; omega⟩
/-- Sorted, each behind those ahead of it. -/
def Srt (D : List (En α)) : Prop := D.Pairwise (fun x y => elt x y = true)
/-- Where a time goes: behind all of it. -/
def plc (t : Int) : List Int → Nat
  | [] => 0
  | x :: r => if x ≤ t then plc t r + 1 else 0
theorem plc_le (t : Int) : ∀ (T : List Int), plc t T ≤ T.length
  | [] => Nat.le_refl _
  | x :: r => by unfold plc; split; simp only [List.length_cons]; have := plc_le t r; omega; simp
theorem plc_lt (t : Int) : ∀ (T : List Int) (k : Nat), k < plc t T → T.getD k 0 ≤ t
  | [], k, h => by simp [plc] at h
  | x :: r, k, h => by
    unfold plc at h
    split at h
    · cases k with
      | zero => simpa
      | succ k => simpa using plc_lt t r k (by omega)
    · omega
theorem plc_at (t : Int) : ∀ (T : List Int), plc t T < T.length → t < T.getD (plc t T) 0
  | [], h => by simp [plc] at h
  | x :: r, h => by
    unfold plc at h ⊢
    split
    · rename_i hx
      rw [if_pos hx] at h
      simpa using plc_at t r (by simpa using h)
    · rename_i hx
      simp; omega
def ins (D : List (En α)) (e : En α) : List (En α) := D.take (plc e.t (D.map (·.t))) ++ e :: D.drop (plc e.t (D.map (·.t)))
theorem ins_perm (D : List (En α)) (e : En α) : (ins D e).Perm (e :: D) := by
  unfold ins
  refine List.perm_middle.trans ?_
  rw [List.take_append_drop]
theorem ins_srt {D : List (En α)} {e : En α} (h : Srt D) (ho : ∀ x ∈ D, x.o < e.o) : Srt (ins D e) := by
  obtain ⟨k, hk⟩ : ∃ k, plc e.t (D.map (·.t)) = k := ⟨_, rfl⟩
  have h1 : ∀ j, j < k → ∀ x, D[j]? = some x → x.t ≤ e.t := fun j hj x hx => by
    have := plc_lt e.t (D.map (·.t)) j (by omega)
    rw [List.getD_eq_getElem?_getD, List.getElem?_map, hx] at this
    exact this
  have h2 : ∀ x, D[k]? = some x → e.t < x.t := fun x hx => by
    have hlt : k < D.length := (List.getElem?_eq_some_iff.1 hx).1
    have := plc_at e.t (D.map (·.t)) (by rw [hk, List.length_map]; exact hlt)
    rw [hk, List.getD_eq_getElem?_getD, List.getElem?_map, hx] at this
    exact this
  unfold ins
  rw [hk]
  have hsp := h
  unfold Srt at hsp ⊢
  rw [← List.take_append_drop k D, List.pairwise_append] at hsp
  obtain ⟨s1, s2, s3⟩ := hsp
  have hd : ∀ x ∈ D.drop k, elt e x = true := by
    intro x hx
    rw [elt_iff]
    left
    cases hD : D.drop k with
    | nil => rw [hD] at hx; cases hx
    | cons y r =>
      have hy : D[k]? = some y := by
        have := congrArg (fun l => l[0]?) hD
        simpa using this
      have := h2 y hy
      rw [hD] at hx s2
      rcases List.mem_cons.1 hx with rfl | hx
      · exact this
      · have := (List.pairwise_cons.1 s2).1 x hx
        rw [elt_iff] at this
        omega
  have ht : ∀ x ∈ D.take k, elt x e = true := by
    intro x hx
    rw [elt_iff]
    obtain ⟨j, hj, he⟩ := List.mem_iff_getElem.1 hx
    rw [List.length_take] at hj
    rw [List.getElem_take] at he
    have a1 := h1 j (by omega) x (by rw [List.getElem?_eq_getElem (by omega), he])
    have a2 := ho x (List.mem_of_mem_take hx)
    omega
  rw [List.pairwise_append]
  refine ⟨s1, List.pairwise_cons.2 ⟨hd, s2⟩, fun x hx y hy => ?_⟩
  rcases List.mem_cons.1 hy with rfl | hy
  · exact ht x hx
  · exact s3 x hx y hy
/-- The heap of the program, the list of the document. -/
structure Sch (d : En α) (H D : List (En α)) (o : Int) : Prop where
  perm : H.Perm D
  srt : Srt D
  heap : Heap elt d H 0 H.length
  ord : ∀ x ∈ D, x.o ≤ o
theorem Sch.new (d : En α) : Sch d [] [] 0 := ⟨List.Perm.refl _, List.Pairwise.nil, fun j h1 h2 => by simp at h2, fun x hx => by cases hx⟩
theorem Sch.len {d : En α} {H D : List (En α)} {o : Int} (h : Sch d H D o) : H.length = D.length := h.perm.length_eq
theorem Sch.put {d : En α} {H D : List (En α)} {o : Int} (h : Sch d H D o) (e : En α) (he : e.o = o + 1) : Sch d (psh elt d H e) (ins D e) (o + 1) := by
  obtain ⟨p1, p2, p3⟩ := psh_ok d elt_ord e h.heap
  refine ⟨p2.trans ((h.perm.cons e).trans (ins_perm D e).symm), ins_srt h.srt (fun x hx => by have := h.ord x hx; omega), by rw [p3]; exact p1, fun x hx => ?_⟩
  rcases List.mem_cons.1 ((ins_perm D e).mem_iff.1 hx) with rfl | hx
  · omega
  · have := h.ord x hx; omega
theorem Sch.first {d : En α} {H D : List (En α)} {o : Int} (h : Sch d H D o) (hn : 0 < H.length) : H.getD 0 d = D.getD 0 d := by
  have hl := h.len
  cases D with
  | nil => rw [List.length_nil] at hl; omega
  | cons y r =>
    cases H with
    | nil => simp at hn
    | cons x q =>
      simp only [List.getD_cons_zero]
      have hx : x ∈ y :: r := h.perm.mem_iff.1 (List.mem_cons_self ..)
      rcases List.mem_cons.1 hx with e | hx
      · exact e
      · exfalso
        have h1 := (List.pairwise_cons.1 h.srt).1 x hx
        have hy : y ∈ x :: q := h.perm.mem_iff.2 (List.mem_cons_self ..)
        obtain ⟨k, hk, he⟩ := List.mem_iff_getElem.1 hy
        have h2 := heap_least d elt_ord h.heap k hk
        rw [List.getD_eq_getElem?_getD, List.getElem?_eq_getElem hk, he] at h2
        simp only [Option.getD_some, List.getD_cons_zero] at h2
        rw [h1] at h2
        cases h2
theorem Sch.next {d : En α} {H : List (En α)} {y : En α} {r : List (En α)} {o : Int} (h : Sch d H (y :: r) o) : Sch d (pop elt d H) r o ∧ H.getD 0 d = y ∧ (down elt d (swp d H 0 (H.length - 1)) 0 (H.length - 1)).getD (H.length - 1) d = y := by
  have hl := h.len
  have hn : 0 < H.length := by rw [hl]; simp
  obtain ⟨p1, p2, p3, p4⟩ := pop_ok d elt_ord (List.length_pos_iff.1 hn) h.heap
  have hf := h.first hn
  rw [List.getD_cons_zero] at hf
  rw [hf] at p2 p4
  refine ⟨⟨(p2.trans h.perm).cons_inv, (List.pairwise_cons.1 h.srt).2, by rw [p3]; exact p1, fun x hx => h.ord x (List.mem_cons_of_mem _ hx)⟩, hf, p4⟩
theorem Sch.drop {d : En α} {H D : List (En α)} {o : Int} (h : Sch d H D o) (p : En α → Bool) : Sch d (ini elt d (H.filter p) ((H.filter p).length / 2)) (D.filter p) o := by
  obtain ⟨q1, q2⟩ := ini_heap d elt_ord (H.filter p).length ((H.filter p).length / 2) (H.filter p) rfl (fun j h1 h2 h3 => by omega)
  exact ⟨q2.trans (h.perm.filter p), h.srt.filter p, by rw [q2.length_eq]; exact q1, fun x hx => h.ord x (List.mem_filter.1 hx).1⟩
end
/-- Delays. -/
def dl (d : Int) : Nat → Int
  | 0 => d
  | k + 1 => if d < 100000 then dl (d * 2) k else d
theorem dl_big {d : Int} (h : ¬ d < 100000) : ∀ k, dl d k = d
  | 0 => rfl
  | k + 1 => by rw [dl, if_neg h]
theorem dl_min : ∀ (k : Nat) (d : Int), 1 ≤ d → min (dl d k) 100000 = min (d * 2 ^ k) 100000
  | 0, d, h => by simp [dl]
  | k + 1, d, h => by
    unfold dl
    have e : d * 2 ^ (k + 1) = (d * 2) * 2 ^ k := by rw [Int.pow_succ, Int.mul_comm (2 ^ k) 2, Int.mul_assoc]
    split
    · rw [dl_min k (d * 2) (by omega), e]
    · rename_i hd
      have h1 : (1 : Int) ≤ 2 ^ k := by have : (0:Int) < 2 ^ k := Int.pow_pos (by decide); omega
      have h2 : (d * 2) * 1 ≤ (d * 2) * 2 ^ k := Int.mul_le_mul_of_nonneg_left h1 (by omega)
      rw [e]
      omega
theorem dl_mono (d : Int) (h : 1 ≤ d) (k : Nat) : min (d * 2 ^ k) 100000 ≤ min (d * 2 ^ (k + 1)) 100000 := by
  have h1 : (0 : Int) < 2 ^ k := Int.pow_pos (by decide)
  have h2 : 0 ≤ d * 2 ^ k := Int.mul_nonneg (by omega) (by omega)
  rw [Int.pow_succ, ← Int.mul_assoc]
  omega
end Go.Proofs.Ytfijbhacobjjgag.Pl
