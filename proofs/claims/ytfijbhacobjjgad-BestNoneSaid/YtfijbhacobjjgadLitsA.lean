/- The contract of parse's Literals. -/
import Derived.Test.YtfijbhacobjjgadProg
import Derived.Test.YtfijbhacobjjgadVals
import Derived.Test.YtfijbhacobjjgadWLast
import Derived.Test.YtfijbhacobjjgadWMore
import Derived.RegionTactic
import Derived.ChangeAlike
import Derived.BigRegion
import Derived.WalkLawsBesides
import Derived.WalkSpells
import Derived.Deep.LoopGhost
import Derived.Deep.QuietTactic
import Derived.BigQuiet
import Derived.OwnWalk
import Derived.Test.YtfijbhacobjjgadBuildA
namespace Go.Proofs.Ytfijbhacobjjgad
open Go.RowKit Go.Proofs.YtfijbhacobjjgadW.PrintWords Go.Proofs.YtfijbhacobjjgadW.PrintLast Go.Proofs.YtfijbhacobjjgadW.PrintMore Go.Proofs.Ytfijbhacobjjgad.Fr
set_option linter.unusedVariables false
set_option linter.unusedSimpArgs false
attribute [local go_sem] max2_int min2_int max_two min_two

open Pl in
/-- A number, brought between 0 and another one. -/
def cl (x : Int) (n : Nat) : Nat := min (max x 0).toNat n
theorem cl_le (x : Int) (n : Nat) : cl x n ≤ n := Nat.min_le_right _ _
theorem cl_if (x : Int) (n : Nat) : (if (n : Int) < (if x < 0 then 0 else x) then (n : Int) else (if x < 0 then 0 else x)) = (cl x n : Int) := by
  unfold cl
  split <;> split <;> omega
/-- The literals of a text by any steps. -/
def litC : Pl.Bs → List Pl.Stp → Pl.Bs
  | t, [] => t
  | t, s :: r => t.take (cl s.1 t.length) ++ litC ((t.drop (cl s.1 t.length)).drop (cl s.2.1 (t.length - cl s.1 t.length))) r
theorem litC_le : ∀ (l : List Pl.Stp) (t : Pl.Bs), (litC t l).length ≤ t.length
  | [], t => Nat.le_refl _
  | s :: r, t => by
    have := litC_le r ((t.drop (cl s.1 t.length)).drop (cl s.2.1 (t.length - cl s.1 t.length)))
    simp only [litC, List.length_append, List.length_take, List.length_drop] at *
    omega
theorem litC_fits (t : Pl.Bs) : ∀ (l : List Pl.Stp) (a : Nat), fits t.length l a → litC (t.drop a) l = Pl.litsOf t l a
  | [], a, _ => rfl
  | s :: r, a, h => by
    obtain ⟨h1, h2, h3, h4⟩ := h
    have e1 : cl s.1 (t.drop a).length = s.1.toNat := by unfold cl; rw [List.length_drop]; omega
    have e2 : cl s.2.1 ((t.drop a).length - s.1.toNat) = s.2.1.toNat := by unfold cl; rw [List.length_drop]; omega
    simp only [litC, Pl.litsOf]
    rw [e1, e2, List.drop_drop, List.drop_drop, ← Nat.add_assoc, litC_fits t r _ h4]
theorem ext_first (L : ByteArray) (n : Nat) : (L.extract 0 n).data.toList = L.data.toList.take n := by
  have := ext_mid L 0 n
  rw [Nat.zero_add] at this
  exact this
theorem str_byte (s : ByteArray) : Lib.strCells s = Lib.byteCells s.data.toList := rfl
theorem byte_app (a b : List UInt8) : Lib.byteCells (a ++ b) = Lib.byteCells a ++ Lib.byteCells b := by simp [Lib.byteCells]
set_option maxRecDepth 100000 in
set_option maxHeartbeats 4000000 in
theorem plits_any (X : ByteArray) (A0 : Option Addr) (cap : Nat) (xs : List Pl.Stp) (w0 : World) (hX : X.size ≤ 1000000) (hxl : xs.length ≤ 1000000) (hS : Steps w0 A0 xs) :
    Calls Try.prog 21 #[.string X, .slice A0 xs.length cap] w0 fun e w' => e = .returned (.string (toS (litC X.data.toList xs))) ∧ Below w0.heap.size w0 w' := by
  have HS := Aside0.mk hS
  have HN0 := Aside0.mk (Lib.fresh_isBuilder 59 5 w0)
  have HB0 : Aside0 (Below w0.heap.size w0 (w0.alloc (.cells #[.pointer none, .slice none 0 0] 59))) := ⟨below_alloc (Below.refl _ _) _⟩
  obtain ⟨b, hb⟩ : ∃ b, w0.heap.size = b := ⟨_, rfl⟩
  have HBB := Aside0.mk hb
  rw [hb] at HN0 HB0
  clear hS hb
  go_enter Try.func21, Try.ntmps21
  go_wp2
  rw [HBB.out]
  have HSZ : Aside0 (b < (w0.alloc (.cells #[.pointer none, .slice none 0 0] 59)).heap.size) := ⟨by have := HBB.out; simp; omega⟩
  generalize w0.alloc (.cells #[.pointer none, .slice none 0 0] 59) = W at HN0 HB0 HSZ ⊢
  go_loopg [0, 11] xs.length (fun gk x y wr => ∃ (k : Nat) (R0 : ByteArray) (dn : List UInt8), Aside0 (k + gk = xs.length ∧ dn ++ litC R0.data.toList (xs.drop k) = litC X.data.toList xs ∧ R0.size + dn.length ≤ X.size) ∧ x = .string R0 ∧ y = .int .i64 k ∧ Aside0 (Lib.IsBuilder 59 5 b b (Lib.byteCells dn) wr ∧ Below b w0 wr ∧ b < wr.heap.size))
  case atStart => exact ⟨0, X, [], ⟨by omega, rfl, by simp⟩, rfl, rfl, ⟨HN0.out, HB0.out, HSZ.out⟩⟩
  case round =>
    clear HN0 HB0 HSZ
    obtain ⟨k, R0, dn, HK, rfl, rfl, HI⟩ := hrel
    have hsz := HK.out.2.2
    have hbw := HI.out.2.2
    by_cases hlt : k < xs.length
    · obtain ⟨ad, rfl, hc0, hc1, hc2⟩ := (HS.out.below (HBB.out ▸ HI.out.2.1)) k hlt
      have hlc := HK.out.2.1
      rw [drop_get xs k hlt] at hlc
      obtain ⟨s1, s2, s3, hs⟩ : ∃ s1 s2 s3, xs.getD k (0, 0, 0) = (s1, s2, s3) := ⟨_, _, _, rfl⟩
      rw [hs] at hc0 hc1 hc2 hlc
      simp only [litC, data_length] at hlc
      simp only at hc0 hc1 hc2
      rw [← add_add, cell_off _ (by decide)] at hc1 hc2
      obtain ⟨u1, hu1⟩ : ∃ u1, (if s1 < 0 then 0 else s1) = u1 := ⟨_, rfl⟩
      obtain ⟨u2, hu2⟩ : ∃ u2, (if s2 < 0 then 0 else s2) = u2 := ⟨_, rfl⟩
      have hn1 := cl_if s1 R0.size
      rw [hu1] at hn1
      have hl1 := cl_le s1 R0.size
      obtain ⟨n1, hn1e⟩ : ∃ n1, cl s1 R0.size = n1 := ⟨_, rfl⟩
      rw [hn1e] at hlc hn1 hl1
      have hx1 : (R0.extract 0 n1).size = n1 := by rw [ByteArray.size_extract]; omega
      have hx2 : (R0.extract n1 R0.size).size = R0.size - n1 := by rw [ByteArray.size_extract]; omega
      have hn2 := cl_if s2 (R0.size - n1)
      rw [hu2] at hn2
      have hl2 := cl_le s2 (R0.size - n1)
      obtain ⟨n2, hn2e⟩ : ∃ n2, cl s2 (R0.size - n1) = n2 := ⟨_, rfl⟩
      rw [hn2e] at hlc hn2 hl2
      have hx3 : ((R0.extract n1 R0.size).extract n2 (R0.extract n1 R0.size).size).size = R0.size - n1 - n2 := by rw [ByteArray.size_extract, hx2]; omega
      have HL : Aside0 ((dn ++ (R0.extract 0 n1).data.toList) ++ litC ((R0.extract n1 R0.size).extract n2 (R0.extract n1 R0.size).size).data.toList (xs.drop (k + 1)) = litC X.data.toList xs ∧ ((R0.extract n1 R0.size).extract n2 (R0.extract n1 R0.size).size).size + (dn ++ (R0.extract 0 n1).data.toList).length ≤ X.size) := ⟨by
        rw [ext_rest, ext_rest, ext_first, List.append_assoc]; exact hlc, by
        rw [hx3, List.length_append, data_length, hx1]; omega⟩
      have HWS : Aside0 (∀ w, Lib.IsBuilder 59 5 b b (Lib.byteCells dn) w → b ≤ w.heap.size → Calls Try.prog 32 #[.pointer (some ⟨b, 0, none⟩), .string (R0.extract 0 n1)] w fun e w' => e = .returned (.tuple #[.int .i64 n1, .nilIface]) ∧ Lib.BuilderAt 59 5 b b (.pointer (some ⟨b, 0, none⟩)) (Lib.byteCells (dn ++ (R0.extract 0 n1).data.toList)) w' ∧ Below b w w' ∧ Kp b w w') := ⟨fun w h hw => by
        have := ws_any b b (Lib.byteCells dn) (R0.extract 0 n1) w h (by rw [Lib.byteCells_length, hx1]; omega) hw
        rw [str_byte, ← byte_app, hx1] at this
        exact this⟩
      have hnR : (R0.extract n1 R0.size).size = R0.size - n1 := hx2
      have hcs : ((R0.size - n1 : Nat) : Int) = (R0.size : Int) - (n1 : Int) := by omega
      have HX := Aside0.mk (And.intro hx1 hx3)
      have HNB := Aside0.mk (blk_new wr (.cells #[.int .i64 s1, .int .i64 s2, .int .i64 s3] 35))
      have HIB : Aside0 (Lib.IsBuilder 59 5 b b (Lib.byteCells dn) (wr.alloc (.cells #[.int .i64 s1, .int .i64 s2, .int .i64 s3] 35)) ∧ Below b w0 (wr.alloc (.cells #[.int .i64 s1, .int .i64 s2, .int .i64 s3] 35)) ∧ b < (wr.alloc (.cells #[.int .i64 s1, .int .i64 s2, .int .i64 s3] 35)).heap.size) := ⟨by
        rcases HI.out.1 with ⟨q1, v, q2, q3, q4⟩ | ⟨q1, v, q2, q3, q4⟩
        · exact .inl ⟨q1, v, blk_below q2 (below_alloc (Below.refl _ _) _), q3.alloc _, q4⟩
        · exact .inr ⟨q1, v, blk_below q2 (below_alloc (Below.refl _ _) _), q3.alloc _, q4⟩, HI.out.2.1.trans ((below_alloc (Below.refl _ _) _).mono (by omega)), by simp; omega⟩
      clear hs hn1e hn2e hlc hx1 hx2 hx3 hcs
      go_wp2_with fail
      clear hc0 hc1 hc2
      obtain ⟨gs, hgs⟩ : ∃ gs, wr.heap.size = gs := ⟨_, rfl⟩
      rw [hgs] at HNB hbw
      rw [hgs]
      generalize wr.alloc (.cells #[.int .i64 s1, .int .i64 s2, .int .i64 s3] 35) = W2 at HNB HIB ⊢
      clear hgs HI
      refine (HWS.out W2 HIB.out.1 (Nat.le_of_lt HIB.out.2.2)).mono ?_
      rintro e w2 ⟨rfl, hbt, hbl, hkp⟩
      have c1 : w2.cell? ⟨gs, 1, none⟩ = some (.int .i64 s2) := (blk_cell (hkp gs _ _ (by omega) (by decide) HNB.out) 1).trans rfl
      have HI2 : Aside0 (Lib.IsBuilder 59 5 b b (Lib.byteCells (dn ++ (R0.extract 0 n1).data.toList)) w2 ∧ Below b w0 w2 ∧ b < w2.heap.size) := ⟨.inr hbt, HIB.out.2.1.trans hbl, Nat.lt_of_lt_of_le HIB.out.2.2 hbl.size⟩
      clear hbt hbl hkp HIB HNB HWS
      go_wp2
      go_roundg (gk - 1)
      case measure => have := HK.out.1; omega
      case rel => exact ⟨k + 1, _, _, ⟨by have := HK.out.1; omega, HL.out.1, HL.out.2⟩, by rw [hnR], by go_num, HI2⟩
    · have HE : Aside0 (litC X.data.toList xs = dn ++ R0.data.toList) := ⟨by
        have h := HK.out.2.1
        rw [List.drop_of_length_le (by omega)] at h
        exact h.symm⟩
      have HWS : Aside0 (Calls Try.prog 32 #[.pointer (some ⟨b, 0, none⟩), .string R0] wr fun e w' => e = .returned (.tuple #[.int .i64 R0.size, .nilIface]) ∧ Lib.BuilderAt 59 5 b b (.pointer (some ⟨b, 0, none⟩)) (Lib.byteCells (dn ++ R0.data.toList)) w' ∧ Below b wr w' ∧ Kp b wr w') := ⟨by
        have := ws_any b b (Lib.byteCells dn) R0 wr HI.out.1 (by rw [Lib.byteCells_length]; omega) (Nat.le_of_lt hbw)
        rw [str_byte, ← byte_app] at this
        exact this⟩
      go_wp2_with fail
      refine HWS.out.mono ?_
      rintro e w2 ⟨rfl, hbt, hbl, hkp⟩
      have HI2 : Aside0 (Lib.IsBuilder 59 5 b b (Lib.byteCells (dn ++ R0.data.toList)) w2 ∧ Below b w0 w2 ∧ b ≤ w2.heap.size) := ⟨.inr hbt, HI.out.2.1.trans hbl, by have := hbl.size; omega⟩
      clear hbt hbl hkp HWS
      go_wp2_with fail
      refine (Try.Builder_String_any b b (dn ++ R0.data.toList) w2 HI2.out.1 HI2.out.2.2).mono ?_
      rintro e w3 ⟨rfl, hbl⟩
      go_wp2
      go_ret
      rw [HE.out, HBB.out]
      exact ⟨rfl, HI2.out.2.1.trans hbl⟩

end Go.Proofs.Ytfijbhacobjjgad
