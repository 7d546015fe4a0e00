/- TopkNobody: the plain law of a full table of one-byte texts. -/
import Derived.Test.YtfijbhacobjjgahLaw49b
namespace Go.Proofs.Ytfijbhacobjjgah.Pl
open Go
set_option linter.unusedSimpArgs false
set_option linter.unusedVariables false
theorem pos_no {s : ByteArray} : ∀ {L : List It}, (∀ x ∈ L, x.t ≠ s) → pos s L = L.length
  | [], _ => rfl
  | x :: r, h => by
    unfold pos
    rw [if_neg (h x (by simp)), pos_no (fun y hy => h y (by simp [hy]))]
    rfl
def one (j : Nat) : ByteArray := ⟨#[UInt8.ofNat j]⟩
theorem one_inj {i j : Nat} (hi : i < 256) (hj : j < 256) (h : one i = one j) : i = j := by
  unfold one at h
  have h2 := congrArg ByteArray.data h
  simp only [Array.mk.injEq, List.cons.injEq, and_true] at h2
  have h3 := congrArg UInt8.toNat h2
  simp only [UInt8.toNat_ofNat'] at h3
  omega
def ls (k : Nat) : List It := (List.range k).map fun j => ⟨one j, 1⟩
theorem ls_len (k : Nat) : (ls k).length = k := by simp [ls]
theorem ls_add {k i : Nat} (hk : k ≤ 20) (hi : i < k) : addL k (one i) 1 (ls i) = (ls (i + 1), true) := by
  have hp : pos (one i) (ls i) = (ls i).length := pos_no fun x hx => by
    unfold ls at hx
    obtain ⟨j, hj, rfl⟩ := List.mem_map.1 hx
    intro e
    have := one_inj (by have := List.mem_range.1 hj; omega) (by omega) e
    have := List.mem_range.1 hj
    omega
  unfold addL
  rw [if_neg (by rw [hp]; omega), if_pos (by rw [ls_len]; omega)]
  unfold ls
  rw [List.range_succ, List.map_append]
  rfl
theorem ls_full {k : Nat} (n : Int) : addL k ⟨#[255, 255]⟩ n (ls k) = (ls k, false) := by
  have hp : pos ⟨#[255, 255]⟩ (ls k) = (ls k).length := pos_no fun x hx => by
    unfold ls at hx
    obtain ⟨j, hj, rfl⟩ := List.mem_map.1 hx
    intro e
    have h2 := congrArg ByteArray.data e
    simp [one] at h2
  unfold addL
  rw [if_neg (by rw [hp]; omega), if_neg (by rw [ls_len]; omega)]
def tl (m : Nat) : List It := (List.range m).map fun j => ⟨one (j + 1), 1⟩
theorem ls_cons (m : Nat) : ls (m + 1) = ⟨one 0, 1⟩ :: tl m := by
  unfold ls tl
  rw [List.range_succ_eq_map, List.map_cons, List.map_map]
  rfl
theorem pos_hd (s : ByteArray) (c : Int) (r : List It) : pos s (⟨s, c⟩ :: r) = 0 := by unfold pos; rw [if_pos rfl]
theorem ls_more {k m : Nat} : addL k (one 0) 5 (ls (m + 1)) = (⟨one 0, 6⟩ :: tl m, true) := by
  rw [ls_cons]
  unfold addL
  rw [pos_hd, if_pos (by simp)]
  have hc : cnt (one 0) (⟨one 0, 1⟩ :: tl m) = 1 := by unfold cnt; rw [pos_hd, if_pos (by simp)]; rfl
  rw [hc]
  rfl
theorem more_cnt (m : Nat) : cnt (one 0) (⟨one 0, 6⟩ :: tl m) = 6 := by unfold cnt; rw [pos_hd, if_pos (by simp)]; rfl
theorem more_len (m : Nat) : ((⟨one 0, 6⟩ :: tl m : List It)).length = m + 1 := by simp [tl]
theorem tl_half (m : Nat) : halL (tl m) = [] := by
  unfold halL tl
  rw [List.filter_eq_nil_iff]
  intro x hx
  simp at hx
  obtain ⟨j, _, rfl⟩ := hx
  simp
theorem more_half (m : Nat) : halL (⟨one 0, 6⟩ :: tl m) = [⟨one 0, 3⟩] := by
  rw [halL_cons, if_pos (by decide), tl_half]
  rfl
theorem one_size (j : Nat) : (one j).size ≤ 9223372036854775807 := by show 1 ≤ _; decide
end Go.Proofs.Ytfijbhacobjjgah.Pl
