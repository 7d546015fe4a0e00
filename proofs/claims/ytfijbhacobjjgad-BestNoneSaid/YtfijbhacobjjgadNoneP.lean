/- None cost less: the plain part. -/
import Derived.Test.YtfijbhacobjjgadLeastWalk
namespace Go.Proofs.Ytfijbhacobjjgad
open Go Go.RowKit Pl Go.Proofs.YtfijbhacobjjgadW.PrintWords
set_option linter.unusedVariables false
theorem Sx_max (D X : ByteArray) (a o m : Nat) (ha : a + m ≤ X.size) (h : ∀ k, k < m → (D.data.toList ++ X.data.toList).getD (D.size + a + k) 0 = (D.data.toList ++ X.data.toList).getD (D.size + a + k - o) 0) (ho : 1 ≤ o) (hoa : o ≤ D.size + a) : m ≤ Sx (D ++ X) D.size a o := by
  have hTs : (D ++ X).size = D.size + X.size := ByteArray.size_append ..
  have hm := cnt_more (D ++ X) (D.size + a - o) (D.size + a) (D ++ X).size 0 (by omega)
  change ¬ (D.size + a - o + Sx (D ++ X) D.size a o < (D ++ X).size ∧ D.size + a + Sx (D ++ X) D.size a o < (D ++ X).size ∧ bg (D ++ X) (D.size + a - o + Sx (D ++ X) D.size a o) = bg (D ++ X) (D.size + a + Sx (D ++ X) D.size a o)) at hm
  by_cases hc : m ≤ Sx (D ++ X) D.size a o
  · exact hc
  · have h1 := h (Sx (D ++ X) D.size a o) (by omega)
    rw [all_get, all_get, show D.size + a + Sx (D ++ X) D.size a o - o = D.size + a - o + Sx (D ++ X) D.size a o by omega] at h1
    exact absurd ⟨by omega, by omega, h1.symm⟩ hm
theorem least_of (D X : ByteArray) (l : List Stp) (h : right (D.data.toList ++ X.data.toList) l D.size) : lst D X ≤ 8 * ((litsOf X.data.toList l 0).length : Int) + costS stN l := by
  have hTs : (D ++ X).size = D.size + X.size := ByteArray.size_append ..
  have := right_least X.size (D.data.toList ++ X.data.toList) D.size stN (Sx (D ++ X) D.size) (cst stN (Sx (D ++ X) D.size) D.size X.size) (by rw [List.length_append, data_length, data_length]) X.data.toList (by rw [data_length]) (fun a o m h1 h2 h3 h4 => Sx_max D X a o m h1 h2 h3 h4)
    (cst_end stN (Sx (D ++ X) D.size) D.size X.size) (fun a ha => (cst_le stN (Sx (D ++ X) D.size) D.size X.size stN_mono a ha).1) (fun a o m ha h1 h2 h3 h4 => (cst_le stN (Sx (D ++ X) D.size) D.size X.size stN_mono a ha).2 o m h1 h2 h3 h4) l 0 (Nat.zero_le _) (by rwa [Nat.add_zero])
  exact this
theorem least_cost (D X : ByteArray) (l : List Stp) (h : right (D.data.toList ++ X.data.toList) l D.size) : lst D X ≤ costI X.data.toList l := by
  rw [cost_right D X l h]; exact least_of D X l h
theorem least_flat (D X : ByteArray) : lst D X ≤ 8 * (X.size : Int) := by
  have := least_of D X [] trivial
  simp only [litsOf, costS, List.drop_zero, data_length] at this
  omega
end Go.Proofs.Ytfijbhacobjjgad
