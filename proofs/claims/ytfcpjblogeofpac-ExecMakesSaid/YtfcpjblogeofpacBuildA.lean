/- The contracts of strings.Builder's copyCheck and WriteString; of parse's Literals. -/
import Derived.Test.YtfcpjblogeofpacProg
import Derived.Test.YtfcpjblogeofpacVals
import Derived.Test.YtfcpjblogeofpacWLast
import Derived.Test.YtfcpjblogeofpacWMore
import Derived.RegionTactic
import Derived.ChangeAlike
import Derived.BigRegion
import Derived.WalkLawsBesides
import Derived.WalkSpells
import Derived.Deep.LoopGhost
import Derived.Deep.QuietTactic
import Derived.BigQuiet
import Derived.OwnWalk
import Derived.Test.YtfcpjblogeofpacShelf
import Derived.Test.YtfcpjblogeofpacSeqsA
import Derived.Lib.Builder
import Derived.Lib.AppendStr
import Derived.Lib.UnsafeStr
import Derived.Laws.Externs
import Derived.Laws.IdiomCopy
namespace Go.Proofs.Ytfcpjblogeofpac
open Go.RowKit Go.Proofs.YtfcpjblogeofpacW.PrintWords Go.Proofs.YtfcpjblogeofpacW.PrintLast Go.Proofs.YtfcpjblogeofpacW.PrintMore Go.Proofs.Ytfcpjblogeofpac.Fr
set_option linter.unusedVariables false
set_option linter.unusedSimpArgs false
attribute [local go_sem] max2_int min2_int max_two min_two
open Go.Proofs.YtfcpjblogeofpacW.PrintWords.Kd
/-- Every block but the builder's, and but rows of bytes, stands. -/
def Kp (b : Nat) (w w' : World) : Prop := ∀ k cs t, k ≠ b → t ≠ 5 → w.heap[k]? = some (.cells cs t (0, 0)) → w'.heap[k]? = some (.cells cs t (0, 0))
theorem Kp.refl (b : Nat) (w : World) : Kp b w w := fun _ _ _ _ _ h => h
theorem Kp.trans {b : Nat} {w w1 w2 : World} (h : Kp b w w1) (k : Kp b w1 w2) : Kp b w w2 := fun i cs t h1 h2 h3 => k i cs t h1 h2 (h i cs t h1 h2 h3)
theorem Kp.set {b : Nat} {w w1 : World} (h : Kp b w w1) (i : Nat) (v : Value) : Kp b w (w1.setCell ⟨b, i, none⟩ v) := fun k cs t h1 h2 h3 => blk_far (h k cs t h1 h2 h3) h1 v
theorem Kp.grown {b : Nat} {w w1 w2 : World} {B n : Nat} {v : Value} {xs : List Value} (h : Kp b w w1) (ho : w1.ownsRow B 5 1 v n xs) (hg : w1.grownBy w2 v.ownBlock) : Kp b w w2 := fun k cs t h1 h2 h3 => by
  have h4 := h k cs t h1 h2 h3
  exact blk_grown h4 hg (fun e => by
    obtain ⟨c, hc⟩ := own_typed ho k e.symm
    rw [hc] at h4
    simp only [Option.some.injEq, Obj.cells.injEq] at h4
    exact h2 h4.2.1.symm)
theorem infoBld : (Try.prog.info? 53).map (·.size) = some 2 := by kernel_rfl
theorem liesBld : liesAt Try.prog Try.prog.depth 53 (2 / Try.prog.cellsOf 53) 0 53 1 = true := by kernel_rfl
theorem info5b : (Try.prog.info? 5).map (fun i => (i.zero, i.size, i.bytes)) = some (some (.int .u8 0), 1, 1) := by kernel_rfl
set_option maxRecDepth 100000 in
theorem cc_used (b : Nat) (w : World) (h0 : w.cell? ⟨b, 0, none⟩ = some (.pointer (some ⟨b, 0, none⟩))) : Calls Try.prog 29 #[.pointer (some ⟨b, 0, none⟩)] w fun e w' => e = .returned (.tuple #[]) ∧ w' = w := by
  obtain ⟨j, hj, _⟩ := Option.map_eq_some_iff.1 infoBld
  go_enter Try.func29, Try.ntmps29
  go_wp2
  rw [Lib.run_neq_ptr_same w _ Try.underlying51 hj]
  go_wp2
  go_end0
  exact ⟨rfl, rfl⟩
set_option maxRecDepth 100000 in
theorem cc_fresh (b : Nat) (w : World) (h0 : w.cell? ⟨b, 0, none⟩ = some (.pointer none)) (hsh : w.shape? b = some (53, 2)) (hfz : w.frozen? ⟨b, 0, none⟩ = false) : Calls Try.prog 29 #[.pointer (some ⟨b, 0, none⟩)] w fun e w' => e = .returned (.tuple #[]) ∧ w' = w.setCell ⟨b, 0, none⟩ (.pointer (some ⟨b, 0, none⟩)) := by
  obtain ⟨j, hj, hjs⟩ := Option.map_eq_some_iff.1 infoBld
  go_enter Try.func29, Try.ntmps29
  go_wp2
  rw [Lib.run_to_unsafe w ⟨b, 0, none⟩ Try.underlying51 Try.underlying69 hj (by rw [hjs]; decide) hsh (Nat.zero_lt_succ 1)]
  simp only [Result.andThen]
  rw [Oper.upon_value]
  go_wp2
  rw [run_callFunc_extern Try.func31 (by kernel_rfl) (by kernel_rfl) (by kernel_rfl) (e := Extern.AbiNoEscape.same) (by kernel_rfl)]
  rw [Lib.run_noEscape]
  simp only [Result.andThen]
  rw [Oper.upon_value]
  go_wp2
  rw [Lib.run_from_unsafe w ⟨b, 0, none⟩ Try.underlying69 Try.underlying51 hj hsh liesBld]
  simp only [Result.andThen]
  rw [Oper.upon_value]
  go_wp2
  go_end0
  exact ⟨rfl, rfl⟩
theorem cc_any (B b : Nat) (bs : List Value) (w : World) (h : Lib.IsBuilder 53 5 B b bs w) : Calls Try.prog 29 #[.pointer (some ⟨b, 0, none⟩)] w fun e w' => e = .returned (.tuple #[]) ∧ Lib.BuilderAt 53 5 B b (.pointer (some ⟨b, 0, none⟩)) bs w' ∧ Below B w w' ∧ Kp b w w' := by
  rcases h with h | h
  · refine (cc_fresh b w h.cell0 h.shape h.frozen0).mono ?_
    rintro e w' ⟨rfl, rfl⟩
    exact ⟨rfl, h.used _, (Below.refl B w).setCell (p := ⟨b, 0, none⟩) h.1 _, (Kp.refl b w).set 0 _⟩
  · refine (cc_used b w h.cell0).mono ?_
    rintro e w' ⟨rfl, rfl⟩
    exact ⟨rfl, h, Below.refl _ _, Kp.refl _ _⟩
set_option maxHeartbeats 2000000 in
set_option maxRecDepth 100000 in
theorem ws_any (B b : Nat) (bs : List Value) (s : ByteArray) (w : World) (h : Lib.IsBuilder 53 5 B b bs w) (hlen : bs.length + s.size ≤ 140737488355328) (hBw : B ≤ w.heap.size) :
    Calls Try.prog 23 #[.pointer (some ⟨b, 0, none⟩), .string s] w fun e w' => e = .returned (.tuple #[.int .i64 s.size, .nilIface]) ∧ Lib.BuilderAt 53 5 B b (.pointer (some ⟨b, 0, none⟩)) (bs ++ Lib.strCells s) w' ∧ Below B w w' ∧ Kp b w w' := by
  obtain ⟨i0, hi, hz0, hz1, hz2⟩ := info_parts info5b
  go_enter Try.func23, Try.ntmps23
  go_wp2_with fail
  refine (cc_any B b bs _ h).mono ?_
  rintro e w1 ⟨rfl, h1, hb1, hk1⟩
  obtain ⟨hB, v, hbk, hown, hne⟩ := h1
  have c0 : w1.cell? ⟨b, 0, none⟩ = some (.pointer (some ⟨b, 0, none⟩)) := by rw [Lib.cell_of_heap hbk]; rfl
  have c1 : w1.cell? ⟨b, 1, none⟩ = some v := by rw [Lib.cell_of_heap hbk]; rfl
  go_wp2_with (at_builtin; refine Lib.wpList_append_own_string _ rfl _ _ 39 9 rfl B 5 i0 Try.underlying39 Try.underlying9 hi hz0 hz1 hz2 _ _ _ rfl hown s rfl ?c3 ?c4 ?c5 ?_)
  case c3 => unfold maxLen; omega
  case c4 => omega
  case c5 => have := hb1.size; omega
  intro v' w2 hown' hgrow _
  have hlt : b < w1.heap.size := by
    rcases Nat.lt_or_ge b w1.heap.size with h' | h'
    · exact h'
    · simp [Array.getElem?_eq_none h'] at hbk
  have hb2 : w2.heap[b]? = some (.cells #[.pointer (some ⟨b, 0, none⟩), v] 53 (0, 0)) := by
    rw [hgrow.block b hlt (fun e => hne e.symm)]
    exact hbk
  have d0 : w2.cell? ⟨b, 0, none⟩ = some (.pointer (some ⟨b, 0, none⟩)) := by rw [Lib.cell_of_heap hb2]; rfl
  have d1 : w2.cell? ⟨b, 1, none⟩ = some v := by rw [Lib.cell_of_heap hb2]; rfl
  have f1 : w2.frozen? ⟨b, 1, none⟩ = false := Lib.frozen_of_heap hb2 1
  obtain ⟨ao, n', cap, rfl⟩ : ∃ ao n' cap, v' = .slice ao n' cap := by
    rcases hown'.2 with ⟨hv, _⟩ | ⟨g, cap, cur, hv, _⟩
    · exact ⟨_, _, _, hv⟩
    · exact ⟨_, _, _, hv⟩
  have hk2 := hk1.grown hown hgrow
  have hbb := hb1.grown hgrow (by have := hb1.size; omega) (fun k hk => (hown.lt k hk).1)
  go_wp2
  go_ret2
  refine ⟨rfl, ?_, ?_, hk2.set 1 _⟩
  · exact Lib.BuilderAt.put (T := 53) (e := 5) hB hb2 (bs' := bs ++ Lib.strCells s) (by simpa [Lib.strCells_length] using hown') (by decide)
  · exact hbb.setCell (p := ⟨b, 1, none⟩) hB _

open Pl in
/-- A number, brought between 0 and another one. -/
def cl (x : Int) (n : Nat) : Nat := min (max x 0).toNat n
theorem cl_le (x : Int) (n : Nat) : cl x n ≤ n := Nat.min_le_right _ _
theorem cl_if (x : Int) (n : Nat) : (if (n : Int) < (if x < 0 then 0 else x) then (n : Int) else (if x < 0 then 0 else x)) = (cl x n : Int) := by
  unfold cl
  split <;> split <;> omega
/-- The literals of a text by any steps. -/
def litC : Pl.Bs → List Pl.Stp → Pl.Bs
  | t, [] => t
  | t, s :: r => t.take (cl s.1 t.length) ++ litC ((t.drop (cl s.1 t.length)).drop (cl s.2.1 (t.length - cl s.1 t.length))) r
theorem litC_le : ∀ (l : List Pl.Stp) (t : Pl.Bs), (litC t l).length ≤ t.length
  | [], t => Nat.le_refl _
  | s :: r, t => by
    have := litC_le r ((t.drop (cl s.1 t.length)).drop (cl s.2.1 (t.length - cl s.1 t.length)))
    simp only [litC, List.length_append, List.length_take, List.length_drop] at *
    omega
theorem litC_fits (t : Pl.Bs) : ∀ (l : List Pl.Stp) (a : Nat), fits t.length l a → litC (t.drop a) l = Pl.litsOf t l a
  | [], a, _ => rfl
  | s :: r, a, h => by
    obtain ⟨h1, h2, h3, h4⟩ := h
    have e1 : cl s.1 (t.drop a).length = s.1.toNat := by unfold cl; rw [List.length_drop]; omega
    have e2 : cl s.2.1 ((t.drop a).length - s.1.toNat) = s.2.1.toNat := by unfold cl; rw [List.length_drop]; omega
    simp only [litC, Pl.litsOf]
    rw [e1, e2, List.drop_drop, List.drop_drop, ← Nat.add_assoc, litC_fits t r _ h4]
theorem ext_first (L : ByteArray) (n : Nat) : (L.extract 0 n).data.toList = L.data.toList.take n := by
  have := ext_mid L 0 n
  rw [Nat.zero_add] at this
  exact this
theorem str_byte (s : ByteArray) : Lib.strCells s = Lib.byteCells s.data.toList := rfl
theorem byte_app (a b : List UInt8) : Lib.byteCells (a ++ b) = Lib.byteCells a ++ Lib.byteCells b := by simp [Lib.byteCells]
set_option maxRecDepth 100000 in
set_option maxHeartbeats 4000000 in
theorem plits_any (X : ByteArray) (A0 : Option Addr) (cap : Nat) (xs : List Pl.Stp) (w0 : World) (hX : X.size ≤ 1000000) (hxl : xs.length ≤ 1000000) (hS : Steps w0 A0 xs) :
    Calls Try.prog 13 #[.string X, .slice A0 xs.length cap] w0 fun e w' => e = .returned (.string (toS (litC X.data.toList xs))) ∧ Below w0.heap.size w0 w' := by
  have HS := Aside0.mk hS
  have HN0 := Aside0.mk (Lib.fresh_isBuilder 53 5 w0)
  have HB0 : Aside0 (Below w0.heap.size w0 (w0.alloc (.cells #[.pointer none, .slice none 0 0] 53))) := ⟨below_alloc (Below.refl _ _) _⟩
  obtain ⟨b, hb⟩ : ∃ b, w0.heap.size = b := ⟨_, rfl⟩
  have HBB := Aside0.mk hb
  rw [hb] at HN0 HB0
  clear hS hb
  go_enter Try.func13, Try.ntmps13
  go_wp2
  rw [HBB.out]
  have HSZ : Aside0 (b < (w0.alloc (.cells #[.pointer none, .slice none 0 0] 53)).heap.size) := ⟨by have := HBB.out; simp; omega⟩
  generalize w0.alloc (.cells #[.pointer none, .slice none 0 0] 53) = W at HN0 HB0 HSZ ⊢
  go_loopg [0, 11] xs.length (fun gk x y wr => ∃ (k : Nat) (R0 : ByteArray) (dn : List UInt8), Aside0 (k + gk = xs.length ∧ dn ++ litC R0.data.toList (xs.drop k) = litC X.data.toList xs ∧ R0.size + dn.length ≤ X.size) ∧ x = .string R0 ∧ y = .int .i64 k ∧ Aside0 (Lib.IsBuilder 53 5 b b (Lib.byteCells dn) wr ∧ Below b w0 wr ∧ b < wr.heap.size))
  case atStart => exact ⟨0, X, [], ⟨by omega, rfl, by simp⟩, rfl, rfl, ⟨HN0.out, HB0.out, HSZ.out⟩⟩
  case round =>
    clear HN0 HB0 HSZ
    obtain ⟨k, R0, dn, HK, rfl, rfl, HI⟩ := hrel
    have hsz := HK.out.2.2
    have hbw := HI.out.2.2
    by_cases hlt : k < xs.length
    · obtain ⟨ad, rfl, hc0, hc1, hc2⟩ := (HS.out.below (HBB.out ▸ HI.out.2.1)) k hlt
      have hlc := HK.out.2.1
      rw [drop_get xs k hlt] at hlc
      obtain ⟨s1, s2, s3, hs⟩ : ∃ s1 s2 s3, xs.getD k (0, 0, 0) = (s1, s2, s3) := ⟨_, _, _, rfl⟩
      rw [hs] at hc0 hc1 hc2 hlc
      simp only [litC, data_length] at hlc
      simp only at hc0 hc1 hc2
      rw [← add_add, cell_off _ (by decide)] at hc1 hc2
      obtain ⟨u1, hu1⟩ : ∃ u1, (if s1 < 0 then 0 else s1) = u1 := ⟨_, rfl⟩
      obtain ⟨u2, hu2⟩ : ∃ u2, (if s2 < 0 then 0 else s2) = u2 := ⟨_, rfl⟩
      have hn1 := cl_if s1 R0.size
      rw [hu1] at hn1
      have hl1 := cl_le s1 R0.size
      obtain ⟨n1, hn1e⟩ : ∃ n1, cl s1 R0.size = n1 := ⟨_, rfl⟩
      rw [hn1e] at hlc hn1 hl1
      have hx1 : (R0.extract 0 n1).size = n1 := by rw [ByteArray.size_extract]; omega
      have hx2 : (R0.extract n1 R0.size).size = R0.size - n1 := by rw [ByteArray.size_extract]; omega
      have hn2 := cl_if s2 (R0.size - n1)
      rw [hu2] at hn2
      have hl2 := cl_le s2 (R0.size - n1)
      obtain ⟨n2, hn2e⟩ : ∃ n2, cl s2 (R0.size - n1) = n2 := ⟨_, rfl⟩
      rw [hn2e] at hlc hn2 hl2
      have hx3 : ((R0.extract n1 R0.size).extract n2 (R0.extract n1 R0.size).size).size = R0.size - n1 - n2 := by rw [ByteArray.size_extract, hx2]; omega
      have HL : Aside0 ((dn ++ (R0.extract 0 n1).data.toList) ++ litC ((R0.extract n1 R0.size).extract n2 (R0.extract n1 R0.size).size).data.toList (xs.drop (k + 1)) = litC X.data.toList xs ∧ ((R0.extract n1 R0.size).extract n2 (R0.extract n1 R0.size).size).size + (dn ++ (R0.extract 0 n1).data.toList).length ≤ X.size) := ⟨by
        rw [ext_rest, ext_rest, ext_first, List.append_assoc]; exact hlc, by
        rw [hx3, List.length_append, data_length, hx1]; omega⟩
      have HWS : Aside0 (∀ w, Lib.IsBuilder 53 5 b b (Lib.byteCells dn) w → b ≤ w.heap.size → Calls Try.prog 23 #[.pointer (some ⟨b, 0, none⟩), .string (R0.extract 0 n1)] w fun e w' => e = .returned (.tuple #[.int .i64 n1, .nilIface]) ∧ Lib.BuilderAt 53 5 b b (.pointer (some ⟨b, 0, none⟩)) (Lib.byteCells (dn ++ (R0.extract 0 n1).data.toList)) w' ∧ Below b w w' ∧ Kp b w w') := ⟨fun w h hw => by
        have := ws_any b b (Lib.byteCells dn) (R0.extract 0 n1) w h (by rw [Lib.byteCells_length, hx1]; omega) hw
        rw [str_byte, ← byte_app, hx1] at this
        exact this⟩
      have hnR : (R0.extract n1 R0.size).size = R0.size - n1 := hx2
      have hcs : ((R0.size - n1 : Nat) : Int) = (R0.size : Int) - (n1 : Int) := by omega
      have HX := Aside0.mk (And.intro hx1 hx3)
      have HNB := Aside0.mk (blk_new wr (.cells #[.int .i64 s1, .int .i64 s2, .int .i64 s3] 37))
      have HIB : Aside0 (Lib.IsBuilder 53 5 b b (Lib.byteCells dn) (wr.alloc (.cells #[.int .i64 s1, .int .i64 s2, .int .i64 s3] 37)) ∧ Below b w0 (wr.alloc (.cells #[.int .i64 s1, .int .i64 s2, .int .i64 s3] 37)) ∧ b < (wr.alloc (.cells #[.int .i64 s1, .int .i64 s2, .int .i64 s3] 37)).heap.size) := ⟨by
        rcases HI.out.1 with ⟨q1, v, q2, q3, q4⟩ | ⟨q1, v, q2, q3, q4⟩
        · exact .inl ⟨q1, v, blk_below q2 (below_alloc (Below.refl _ _) _), q3.alloc _, q4⟩
        · exact .inr ⟨q1, v, blk_below q2 (below_alloc (Below.refl _ _) _), q3.alloc _, q4⟩, HI.out.2.1.trans ((below_alloc (Below.refl _ _) _).mono (by omega)), by simp; omega⟩
      clear hs hn1e hn2e hlc hx1 hx2 hx3 hcs
      go_wp2_with fail
      clear hc0 hc1 hc2
      obtain ⟨gs, hgs⟩ : ∃ gs, wr.heap.size = gs := ⟨_, rfl⟩
      rw [hgs] at HNB hbw
      rw [hgs]
      generalize wr.alloc (.cells #[.int .i64 s1, .int .i64 s2, .int .i64 s3] 37) = W2 at HNB HIB ⊢
      clear hgs HI
      refine (HWS.out W2 HIB.out.1 (Nat.le_of_lt HIB.out.2.2)).mono ?_
      rintro e w2 ⟨rfl, hbt, hbl, hkp⟩
      have c1 : w2.cell? ⟨gs, 1, none⟩ = some (.int .i64 s2) := (blk_cell (hkp gs _ _ (by omega) (by decide) HNB.out) 1).trans rfl
      have HI2 : Aside0 (Lib.IsBuilder 53 5 b b (Lib.byteCells (dn ++ (R0.extract 0 n1).data.toList)) w2 ∧ Below b w0 w2 ∧ b < w2.heap.size) := ⟨.inr hbt, HIB.out.2.1.trans hbl, Nat.lt_of_lt_of_le HIB.out.2.2 hbl.size⟩
      clear hbt hbl hkp HIB HNB HWS
      go_wp2
      go_roundg (gk - 1)
      case measure => have := HK.out.1; omega
      case rel => exact ⟨k + 1, _, _, ⟨by have := HK.out.1; omega, HL.out.1, HL.out.2⟩, by rw [hnR], by go_num, HI2⟩
    · have HE : Aside0 (litC X.data.toList xs = dn ++ R0.data.toList) := ⟨by
        have h := HK.out.2.1
        rw [List.drop_of_length_le (by omega)] at h
        exact h.symm⟩
      have HWS : Aside0 (Calls Try.prog 23 #[.pointer (some ⟨b, 0, none⟩), .string R0] wr fun e w' => e = .returned (.tuple #[.int .i64 R0.size, .nilIface]) ∧ Lib.BuilderAt 53 5 b b (.pointer (some ⟨b, 0, none⟩)) (Lib.byteCells (dn ++ R0.data.toList)) w' ∧ Below b wr w' ∧ Kp b wr w') := ⟨by
        have := ws_any b b (Lib.byteCells dn) R0 wr HI.out.1 (by rw [Lib.byteCells_length]; omega) (Nat.le_of_lt hbw)
        rw [str_byte, ← byte_app] at this
        exact this⟩
      go_wp2_with fail
      refine HWS.out.mono ?_
      rintro e w2 ⟨rfl, hbt, hbl, hkp⟩
      have HI2 : Aside0 (Lib.IsBuilder 53 5 b b (Lib.byteCells (dn ++ R0.data.toList)) w2 ∧ Below b w0 w2 ∧ b ≤ w2.heap.size) := ⟨.inr hbt, HI.out.2.1.trans hbl, by have := hbl.size; omega⟩
      clear hbt hbl hkp HWS
      go_wp2_with fail
      refine (Try.Builder_String_any b b (dn ++ R0.data.toList) w2 HI2.out.1 HI2.out.2.2).mono ?_
      rintro e w3 ⟨rfl, hbl⟩
      go_wp2
      go_ret
      rw [HE.out, HBB.out]
      exact ⟨rfl, HI2.out.2.1.trans hbl⟩

end Go.Proofs.Ytfcpjblogeofpac
