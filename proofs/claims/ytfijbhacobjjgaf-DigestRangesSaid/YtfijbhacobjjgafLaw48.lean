/- Plain law of chapter 48: what is found unlike; numbers as pairs. -/
import Derived.Test.YtfijbhacobjjgafLaw38
namespace Go.Proofs.Ytfijbhacobjjgaf.Pl
set_option linter.unusedSimpArgs false
set_option linter.unusedVariables false
section
variable (lf : ByteArray → Int) (pr : Int → Int → Int)
/-- n of them from f on. -/
def sub (l : List ByteArray) (f n : Nat) : List ByteArray := (l.drop f).take n
theorem sub_len {l : List ByteArray} {f n : Nat} (h : f + n ≤ l.length) : (sub l f n).length = n := by
  unfold sub; rw [List.length_take, List.length_drop]; omega
theorem sub_one {l : List ByteArray} {f : Nat} (h : f < l.length) : sub l f 1 = [l.getD f ByteArray.empty] := by
  unfold sub
  rw [List.drop_eq_getElem_cons h, List.take_succ_cons, List.take_zero, List.getD_eq_getElem?_getD, List.getElem?_eq_getElem h]
  rfl
theorem sub_mem {l : List ByteArray} {f n : Nat} {s : ByteArray} (h : s ∈ sub l f n) : s ∈ l := List.mem_of_mem_drop (List.mem_of_mem_take h)
def fnd (a b : List ByteArray) (n f : Nat) : List Int × Nat :=
  if root lf pr (sub a f n) = root lf pr (sub b f n) then ([], 1)
  else if h : 2 ≤ n then
    have : half n < n := half_lt h
    have : 0 < half n := half_pos _
    ((fnd a b (half n) f).1 ++ (fnd a b (n - half n) (f + half n)).1, 1 + (fnd a b (half n) f).2 + (fnd a b (n - half n) (f + half n)).2)
  else ([(f : Int)], 1)
termination_by n
theorem fnd_same {a b : List ByteArray} {n f : Nat} (e : root lf pr (sub a f n) = root lf pr (sub b f n)) : fnd lf pr a b n f = ([], 1) := by
  rw [fnd, if_pos e]
theorem fnd_one {a b : List ByteArray} {n f : Nat} (e : ¬ root lf pr (sub a f n) = root lf pr (sub b f n)) (h : n < 2) : fnd lf pr a b n f = ([(f : Int)], 1) := by
  rw [fnd, if_neg e, dif_neg (by omega)]
theorem fnd_two {a b : List ByteArray} {n f : Nat} (e : ¬ root lf pr (sub a f n) = root lf pr (sub b f n)) (h : 2 ≤ n) : fnd lf pr a b n f = ((fnd lf pr a b (half n) f).1 ++ (fnd lf pr a b (n - half n) (f + half n)).1, 1 + (fnd lf pr a b (half n) f).2 + (fnd lf pr a b (n - half n) (f + half n)).2) := by
  rw [fnd, if_neg e, dif_pos h]
theorem fnd_asked (a b : List ByteArray) : ∀ (n f : Nat), 1 ≤ n → (fnd lf pr a b n f).2 ≤ 2 * n - 1 ∧ (fnd lf pr a b n f).1.length ≤ n := by
  intro n
  induction n using Nat.strongRecOn with
  | _ n ih =>
    intro f hn
    by_cases e : root lf pr (sub a f n) = root lf pr (sub b f n)
    · rw [fnd_same lf pr e]; simp; omega
    · by_cases h : 2 ≤ n
      · have h1 := half_lt h
        have h2 := half_pos n
        rw [fnd_two lf pr e h]
        have i1 := ih (half n) h1 f h2
        have i2 := ih (n - half n) (by omega) (f + half n) (by omega)
        simp only [List.length_append]
        omega
      · rw [fnd_one lf pr e (by omega)]; simp; omega
theorem fnd_mem (a b : List ByteArray) : ∀ (n f : Nat), 1 ≤ n → f + n ≤ a.length → f + n ≤ b.length → ∀ x ∈ (fnd lf pr a b n f).1, ∃ k : Nat, x = (k : Int) ∧ f ≤ k ∧ k < f + n ∧ a.getD k ByteArray.empty ≠ b.getD k ByteArray.empty := by
  intro n
  induction n using Nat.strongRecOn with
  | _ n ih =>
    intro f hn ha hb x hx
    by_cases e : root lf pr (sub a f n) = root lf pr (sub b f n)
    · rw [fnd_same lf pr e] at hx; cases hx
    · by_cases h : 2 ≤ n
      · have h1 := half_lt h
        have h2 := half_pos n
        rw [fnd_two lf pr e h] at hx
        rcases List.mem_append.1 hx with hx | hx
        · obtain ⟨k, k1, k2, k3, k4⟩ := ih (half n) h1 f h2 (by omega) (by omega) x hx
          exact ⟨k, k1, k2, by omega, k4⟩
        · obtain ⟨k, k1, k2, k3, k4⟩ := ih (n - half n) (by omega) (f + half n) (by omega) (by omega) (by omega) x hx
          exact ⟨k, k1, by omega, by omega, k4⟩
      · obtain rfl : n = 1 := by omega
        rw [fnd_one lf pr e (by omega)] at hx
        obtain rfl : x = (f : Int) := by simpa using hx
        refine ⟨f, rfl, Nat.le_refl _, by omega, fun hh => e ?_⟩
        rw [sub_one (by omega), sub_one (by omega), hh]
end
/-- Numbers as pairs: the program's round. -/
def stp (o : List (Int × Int)) (x : Int) : List (Int × Int) := if o ≠ [] ∧ (o.getLastD (0, 0)).2 = x then o.dropLast ++ [((o.getLastD (0, 0)).1, x + 1)] else o ++ [(x, x + 1)]
def grd (s e : Int) : List Int → List (Int × Int)
  | [] => [(s, e)]
  | x :: r => if e = x then grd s (x + 1) r else (s, e) :: grd x (x + 1) r
theorem stp_grd : ∀ (r : List Int) (o : List (Int × Int)) (s e : Int), r.foldl stp (o ++ [(s, e)]) = o ++ grd s e r
  | [], o, s, e => rfl
  | x :: r, o, s, e => by
    have e0 : stp (o ++ [(s, e)]) x = if e = x then o ++ [(s, x + 1)] else (o ++ [(s, e)]) ++ [(x, x + 1)] := by
      unfold stp
      simp only [List.getLastD_concat, List.dropLast_concat, ne_eq, List.append_eq_nil_iff, List.cons_ne_self, and_false, not_false_eq_true, true_and, reduceCtorEq]
    rw [List.foldl_cons, e0]
    unfold grd
    split
    · exact stp_grd r o s (x + 1)
    · rw [stp_grd r (o ++ [(s, e)]) x (x + 1)]
      simp
/-- The document's: where a run ends; the pairs behind a number. -/
def ru (x : Int) : List Int → Int
  | [] => x
  | y :: r => if x + 1 = y then ru y r else x
def dq (p : Option Int) : List Int → List (Int × Int)
  | [] => []
  | x :: r => if p.map (· + 1) = some x then dq (some x) r else (x, ru x r + 1) :: dq (some x) r
theorem grd_dq : ∀ (r : List Int) (s x : Int), grd s (x + 1) r = (s, ru x r + 1) :: dq (some x) r
  | [], s, x => rfl
  | y :: r, s, x => by
    simp only [grd, ru, dq, Option.map_some, Option.some.injEq]
    split
    · exact grd_dq r s y
    · rw [grd_dq r y y]
theorem pairs_same : ∀ (l : List Int), l.foldl stp [] = dq none l
  | [] => rfl
  | x :: r => by
    have h := stp_grd r [] x (x + 1)
    rw [List.foldl_cons]
    have e : stp [] x = [] ++ [(x, x + 1)] := rfl
    rw [e, h, grd_dq]
    rfl
end Go.Proofs.Ytfijbhacobjjgaf.Pl
