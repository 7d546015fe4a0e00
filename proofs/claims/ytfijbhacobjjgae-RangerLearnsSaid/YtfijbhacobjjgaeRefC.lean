/- The contract of the document's decoder. -/
import Derived.Test.YtfijbhacobjjgaeProg
import Derived.Test.YtfijbhacobjjgaeVals
import Derived.Test.YtfijbhacobjjgaeWLast
import Derived.Test.YtfijbhacobjjgaeWMore
import Derived.RegionTactic
import Derived.ChangeAlike
import Derived.BigRegion
import Derived.WalkLawsBesides
import Derived.WalkSpells
import Derived.Deep.LoopGhost
import Derived.Deep.QuietTactic
import Derived.BigQuiet
import Derived.OwnWalk
import Derived.Test.YtfijbhacobjjgaeRefB
namespace Go.Proofs.Ytfijbhacobjjgae
open Go.RowKit Go.Proofs.YtfijbhacobjjgaeW.PrintWords Go.Proofs.YtfijbhacobjjgaeW.PrintLast Go.Proofs.YtfijbhacobjjgaeW.PrintMore Go.Proofs.Ytfijbhacobjjgae.Fr
set_option linter.unusedVariables false
set_option linter.unusedSimpArgs false
attribute [local go_sem] max2_int min2_int max_two min_two

open Pl
theorem sn_size (l : List Int) : (strOfNums l).size = l.length := by simp [strOfNums, ByteArray.size]
theorem str_ne {s t : ByteArray} (h : ¬ s = t) : (s.toList == t.toList) = false := by
  rw [beq_eq_false_iff_ne]
  intro e
  rw [ByteArray.toList_eq, ByteArray.toList_eq] at e
  exact h (ByteArray.ext (Array.toList_inj.1 e))
/-- The first k of the next bytes, as one number. -/
def vv (B : List Int) (a : Nat) : Nat → Int
  | 0 => 0
  | k + 1 => vv B a k * 256 + B.getD (a + k) 0
theorem vv_four {B : List Int} (hB : Byt B) (a : Nat) : vv B a 4 = V (B.drop a) := by
  have e : ∀ k j, (B.drop k).getD j 0 = B.getD (k + j) 0 := fun k j => by simp [List.getD_eq_getElem?_getD]
  simp only [vv, V, e]
  omega
theorem vv_in {B : List Int} (hB : Byt B) (a : Nat) : ∀ k, k ≤ 4 → 0 ≤ vv B a k ∧ vv B a k < 4294967296 := by
  intro k hk
  have h0 := byt_get hB (a + 0)
  have h1 := byt_get hB (a + 1)
  have h2 := byt_get hB (a + 2)
  have h3 := byt_get hB (a + 3)
  rcases (by omega : k = 0 ∨ k = 1 ∨ k = 2 ∨ k = 3 ∨ k = 4) with rfl | rfl | rfl | rfl | rfl <;> simp only [vv] <;> omega
theorem bz_at (T : ByteArray) (i : Nat) (h : i < T.size) : ((T[i]).toNat : Int) = (bz T).getD i 0 := by
  rw [bz_get]
  congr 2
  rw [List.getD_eq_getElem?_getD, Array.getElem?_toList, Array.getElem?_eq_getElem h]
  rfl
theorem ans_short (T : ByteArray) (n : Nat) (h : (dd n (bz T) c0).2.1.length < 4) : ans (bz T) n = none := by
  unfold ans
  rw [if_neg (fun e => by have := e.1; omega)]
theorem dn_nd : ∀ (k : Nat) (R : List Int) (node d : Nat) (s : Cs), Nd d node → Nd (d + k) (dn k R node s).1
  | 0, R, node, d, s, h => h
  | k + 1, R, node, d, s, h => by
    have := dn_nd k (dr R node s) (nx node (db R node s)) (d + 1) (put s node (db R node s)) (nd_nx _ h)
    rw [show d + 1 + k = d + (k + 1) by omega] at this
    exact this
theorem dd_lt : ∀ (n : Nat) (R : List Int) (s : Cs), ∀ v ∈ (dd n R s).1, v < 256
  | 0, R, s, v, h => by cases h
  | n + 1, R, s, v, h => by
    have hn := (dn_nd 8 R 1 0 s nd_one).2
    obtain ⟨D, hD⟩ : ∃ D, dn 8 R 1 s = D := ⟨_, rfl⟩
    simp only [dd, hD, List.mem_cons] at h
    rw [hD] at hn
    rcases h with h | h
    · have e : 2 ^ (0 + 8 + 1) = 512 := by decide
      omega
    · exact dd_lt n _ _ v h
theorem nb_of (l : List Nat) (h : ∀ v ∈ l, v < 256) : nb (strOfNums (toI l)) = l := by
  unfold nb strOfNums toI
  simp only [List.map_map]
  conv => rhs; rw [← List.map_id l]
  apply List.map_congr_left
  intro v hv
  have := h v hv
  simp only [Function.comp_apply, id]
  show (UInt8.ofNat (Int.toNat (Int.ofNat v))).toNat = v
  simp
  omega
theorem bz_of (l : List Int) (h : Byt l) : bz (strOfNums l) = l := by
  unfold bz strOfNums
  simp only [List.map_map]
  conv => rhs; rw [← List.map_id l]
  apply List.map_congr_left
  intro v hv
  have := h v hv
  simp only [Function.comp_apply, id]
  show (((UInt8.ofNat (Int.toNat v)).toNat : Nat) : Int) = v
  simp
  omega
theorem of_bz (T : ByteArray) : strOfNums (bz T) = T := by
  apply ByteArray.ext
  unfold bz strOfNums
  simp only [List.map_map]
  have : (T.data.toList.map ((fun x : Int => UInt8.ofNat x.toNat) ∘ fun b : UInt8 => (b.toNat : Int))) = T.data.toList := by
    conv => rhs; rw [← List.map_id T.data.toList]
    apply List.map_congr_left
    intro v hv
    simp
  rw [this]
end Go.Proofs.Ytfijbhacobjjgae
