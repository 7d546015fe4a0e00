/- TopkWords: the plain law. -/
import Derived.Test.YtfijbhacobjjgahLaw49b
namespace Go.Proofs.Ytfijbhacobjjgah.Pl
open Go
set_option linter.unusedSimpArgs false
set_option linter.unusedVariables false
/-- Behind some parts of a text. -/
def stp (k : Nat) (r : ByteArray) (L : List It) : Nat → List It
  | 0 => L
  | i + 1 => (addL 1000 (r.extract i (i + k)) 1 (stp k r L i)).1
def recL (k : Nat) (r : ByteArray) (L : List It) : List It := stp k r L (r.size + 1 - k)
def allL (k : Nat) (l : List ByteArray) : List It := l.foldl (fun L r => recL k r L) []
theorem allL_step (k : Nat) (l : List ByteArray) (i : Nat) (hi : i < l.length) : allL k (l.take (i + 1)) = recL k (l.getD i ByteArray.empty) (allL k (l.take i)) := by
  unfold allL
  rw [List.take_succ_eq_append_getElem hi, List.foldl_append, List.getD_eq_getElem?_getD, List.getElem?_eq_getElem hi]
  rfl
theorem stp_wl {k : Nat} {r : ByteArray} {L : List It} (h : WL 1000 L) : ∀ i, WL 1000 (stp k r L i)
  | 0 => h
  | i + 1 => (stp_wl h i).add _ _
theorem allL_wl (k : Nat) (l : List ByteArray) : ∀ i, i ≤ l.length → WL 1000 (allL k (l.take i))
  | 0, _ => by unfold allL; simp; exact WL.nil _
  | i + 1, h => by rw [allL_step k l i (by omega)]; exact stp_wl (allL_wl k l i (by omega)) _
theorem addL_all {P : ByteArray → Prop} {room : Nat} {s : ByteArray} {wt : Int} {L : List It} (hs : P s) (h : ∀ x ∈ L, P x.t) : ∀ x ∈ (addL room s wt L).1, P x.t := by
  intro x hx
  unfold addL at hx
  split at hx
  · rcases List.mem_or_eq_of_mem_set hx with hx | rfl
    · exact h x hx
    · exact hs
  · split at hx
    · rcases List.mem_append.1 hx with hx | hx
      · exact h x hx
      · simp at hx; subst hx; exact hs
    · exact h x hx
theorem stp_all {P : ByteArray → Prop} {k : Nat} {r : ByteArray} {L : List It} (hs : ∀ i, P (r.extract i (i + k))) (h : ∀ x ∈ L, P x.t) : ∀ i, ∀ x ∈ stp k r L i, P x.t
  | 0 => h
  | i + 1 => addL_all (hs i) (stp_all hs h i)
theorem allL_size (k : Nat) (l : List ByteArray) : ∀ i, i ≤ l.length → ∀ x ∈ allL k (l.take i), x.t.size ≤ k
  | 0, _ => by unfold allL; simp
  | i + 1, h => by
    rw [allL_step k l i (by omega)]
    exact stp_all (P := fun s => s.size ≤ k) (fun j => by rw [ByteArray.size_extract]; omega) (allL_size k l i (by omega)) _
theorem cnt_in {L : List It} (h : Ndp L) {i : Nat} (hi : i < L.length) : cnt L[i].t L = L[i].c := by
  have hp := pos_is h hi rfl
  unfold cnt
  rw [hp, if_pos hi, List.getD_eq_getElem?_getD, List.getElem?_eq_getElem hi]
  rfl
end Go.Proofs.Ytfijbhacobjjgah.Pl
