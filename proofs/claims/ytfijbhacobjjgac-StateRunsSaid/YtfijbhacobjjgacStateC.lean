/- A state beside other things; same; awake. -/
import Derived.Test.YtfijbhacobjjgacStateB
namespace Go.Proofs.Ytfijbhacobjjgac
open Go.RowKit Go.Proofs.YtfijbhacobjjgacW.PrintWords Go.Proofs.YtfijbhacobjjgacW.PrintLast Go.Proofs.YtfijbhacobjjgacW.PrintMore Go.Proofs.Ytfijbhacobjjgac.Fr
set_option linter.unusedVariables false
set_option linter.unusedSimpArgs false
attribute [local go_sem] max2_int min2_int max_two min_two

theorem list_ne {a b : List ByteArray} {k : Nat} (h : a.getD k ByteArray.empty ≠ b.getD k ByteArray.empty) : a ≠ b := fun e => h (by rw [e])
theorem list_eq {a b : List ByteArray} (hl : a.length = b.length) (h : ∀ i, i < a.length → a.getD i ByteArray.empty = b.getD i ByteArray.empty) : a = b := by
  apply List.ext_getElem hl
  intro i h1 h2
  have := h i h1
  simpa [List.getD_eq_getElem?_getD, h1, h2] using this
set_option maxHeartbeats 1000000 in
/-- same: are these texts the same? -/
theorem same_any (A B : Option Addr) (a b : List ByteArray) (ca cb : Nat) (w : World) (hA : RdS w A a) (hB : RdS w B b) (hla : a.length ≤ 1000000) (hca : a.length ≤ ca) (hcb : b.length ≤ cb) :
    Calls Try.prog 13 #[.slice A a.length ca, .slice B b.length cb] w fun e w' => e = .returned (.bool (decide (a = b))) ∧ Drawn0 w w' := by
  by_cases hl : a.length = b.length
  · have hneq : ((a.length : Int) == (b.length : Int)) = true := by simp; omega
    have HL := Aside0.mk hl
    have HA := Aside0.mk hA
    have HB := Aside0.mk hB
    clear hl hA hB
    go_enter Try.func13, Try.ntmps13
    go_wp2
    go_loopg [13] a.length (fun d v13 wr => ∃ k : Nat, Aside0 (k + d = a.length) ∧ v13 = .int .i64 k ∧ Aside0 (∀ i, i < k → a.getD i ByteArray.empty = b.getD i ByteArray.empty) ∧ Aside0 (Drawn0 w wr))
    case atStart => exact ⟨0, ⟨by omega⟩, rfl, ⟨fun i hi => by omega⟩, ⟨Drawn0.refl w⟩⟩
    case round =>
      obtain ⟨k, HK, rfl, HE, HD⟩ := hrel
      by_cases hlt : k < a.length
      · obtain ⟨x, hx⟩ : ∃ x, a.getD k ByteArray.empty = x := ⟨_, rfl⟩
        obtain ⟨y, hy⟩ : ∃ y, b.getD k ByteArray.empty = y := ⟨_, rfl⟩
        obtain ⟨ad, rfl, hc1⟩ := HA.out k hlt
        obtain ⟨bd, rfl, hc2⟩ := HB.out k (by have := HL.out; omega)
        rw [hx] at hc1
        rw [hy] at hc2
        have HX := Aside0.mk hx
        have HY := Aside0.mk hy
        have hkb : (k : Int) < (b.length : Int) := by have := HL.out; omega
        have hd1 : wr.cell? (ad.add k) = some (.string x) := by obtain ⟨⟨nq, rfl⟩⟩ := HD.out; exact hc1
        have hd2 : wr.cell? (bd.add k) = some (.string y) := by obtain ⟨⟨nq, rfl⟩⟩ := HD.out; exact hc2
        clear hx hy hc1 hc2
        by_cases hxy : x = y
        · have hne : (x.toList == y.toList) = true := by rw [str_beq]; simpa using hxy
          have HXY := Aside0.mk hxy
          clear hxy
          go_wp2
          go_region
          all_goals go_wp2
          all_goals go_roundg (gk - 1)
          case measure => have := HK.out; omega
          case rel => exact ⟨k + 1, ⟨by have := HK.out; omega⟩, by go_num, ⟨fun i hi => by
            by_cases e : i = k
            · subst e; rw [HX.out, HY.out, HXY.out]
            · exact HE.out i (by omega)⟩, ⟨HD.out.step 1⟩⟩
        · have hne : (x.toList == y.toList) = false := by rw [str_beq]; simpa using hxy
          have HXY := Aside0.mk hxy
          clear hxy
          go_wp2
          go_region
          all_goals go_wp2
          all_goals go_ret
          have hab : a ≠ b := list_ne (k := k) (by rw [HX.out, HY.out]; exact HXY.out)
          exact ⟨by simp [hab], HD.out.step 1⟩
      · go_wp2
        go_ret
        have hab : a = b := list_eq HL.out (fun i hi => HE.out i (by omega))
        exact ⟨by simp [hab], HD.out⟩
  · have hneq : ((a.length : Int) == (b.length : Int)) = false := by simp; omega
    have hab : a ≠ b := fun e => hl (by rw [e])
    have HAB := Aside0.mk hab
    clear hab hl
    go_enter Try.func13, Try.ntmps13
    go_wp2
    go_ret
    exact ⟨by simp [HAB.out], Drawn0.refl w⟩

/-- A state that the call has made. -/
structure SI (B : Nat) (a w : World) (g : Nat) (rv dv : Value) (md n : Nat) (rs ds : List ByteArray) (D : DW) : Prop where
  st : ST B w g rv dv md n rs ds D
  below : Below B a w
  hB : B ≤ w.heap.size
def Free (B g : Nat) (rv dv : Value) (md i : Nat) : Prop := B ≤ i ∧ i ≠ g ∧ rv.ownBlock ≠ some i ∧ dv.ownBlock ≠ some i ∧ md ≠ i
section
variable {B : Nat} {a w w1 : World} {g : Nat} {rv dv : Value} {md n : Nat} {rs ds : List ByteArray} {D : DW}
theorem SI.from (h : SI B a w g rv dv md n rs ds D) (k : Below w.heap.size w w1) : SI B a w1 g rv dv md n rs ds D := ⟨h.st.below k, Ch.onto (S := fun _ => False) h.below (Ch.of_below k) h.hB (fun _ e => e.elim), Nat.le_trans h.hB k.size⟩
theorem SI.free (h : SI B a w g rv dv md n rs ds D) {i : Nat} (hi : w.heap.size ≤ i) : Free B g rv dv md i :=
  ⟨Nat.le_trans h.hB hi, fun e => by have := blk_lt h.st.box; omega, fun e => by have := own_lt h.st.rcs _ e; omega, fun e => by have := own_lt h.st.dsk _ e; omega, fun e => by have := h.st.map.lt; omega⟩
theorem SI.set (h : SI B a w g rv dv md n rs ds D) {p : Nat} (hf : Free B g rv dv md p) (i : Nat) (u : Value) : SI B a (w.setCell ⟨p, i, none⟩ u) g rv dv md n rs ds D :=
  ⟨⟨blk_far h.st.box (Ne.symm hf.2.1) u, own_setCell h.st.rcs (Ne.symm hf.2.2.1) _, own_setCell h.st.dsk (Ne.symm hf.2.2.2.1) _, h.st.map.setCell hf.2.2.2.2 _, h.st.ne1, h.st.ne2, h.st.ne3, h.st.lo, h.st.lom, h.st.nm1, h.st.nm2, h.st.nm3⟩,
    Ch.onto (S := fun j => j = p) h.below ((Ch.refl _ _).set rfl) h.hB (fun i e => e ▸ hf.1), by simp [World.setCell]; exact h.hB⟩
theorem new_in (w : World) (h : Below B a w) (hB : B ≤ w.heap.size) : Calls Try.prog 7 #[] w fun e w' => ∃ g md, e = .returned (.pointer (some ⟨g, 0, none⟩)) ∧ SI B a w' g (.slice none 0 0) (.slice none 0 0) md 0 [] [] (.map []) :=
  (new_any w).mono fun e w' ⟨g, md, he, hl, hb⟩ => ⟨g, md, he, ⟨hl.box, own_less hl.rcs hB, own_less hl.dsk hB, hl.map, hl.ne1, hl.ne2, hl.ne3, Nat.le_trans hB hl.lo, Nat.le_trans hB hl.lom, hl.nm1, hl.nm2, hl.nm3⟩, Ch.onto (S := fun _ => False) h (Ch.of_below hb) hB (fun _ e => e.elim), Nat.le_trans hB hb.size⟩
theorem apply_in (at' : Int) (s : ByteArray) (h : SI B a w g rv dv md n rs ds D) (hat : at' = rs.length) (hl : rs.length < 400) :
    Calls Try.prog 9 #[.pointer (some ⟨g, 0, none⟩), .int .i64 at', .string s] w fun e w' => ∃ v1, e = .returned (.int .i64 0) ∧ SI B a w' g v1 dv md n (rs ++ [s]) ds D ∧ Ch (fun i => i = g ∨ some i = rv.ownBlock) w w' ∧ (∀ k, v1.ownBlock = some k → rv.ownBlock = some k ∨ w.heap.size ≤ k) :=
  (apply_any at' s w h.st h.hB hat hl).mono fun e w' ⟨v1, he, ht, hc, hv⟩ => ⟨v1, he, ⟨ht, Ch.onto h.below hc h.hB (fun i e => by rcases e with rfl | e; exact h.st.lo; exact own_base h.st.rcs i e.symm), Nat.le_trans h.hB hc.size⟩, hc, hv⟩
theorem load_in (A : Option Addr) (c : Nat) (l : List ByteArray) (h : SI B a w g rv dv md n rs ds D) (hrd : RdS w A l) (hl : rs.length < l.length) (hl4 : l.length ≤ 400) :
    Calls Try.prog 10 #[.pointer (some ⟨g, 0, none⟩), .slice A l.length c] w fun e w' => ∃ v1, e = .returned (.int .i64 0) ∧ SI B a w' g v1 dv md n l ds D ∧ Ch (fun i => i = g) w w' ∧ (∀ k, v1.ownBlock = some k → w.heap.size ≤ k) :=
  (load_any A c l w h.st h.hB hrd hl hl4).mono fun e w' ⟨v1, he, ht, hc, hv⟩ => ⟨v1, he, ⟨ht, Ch.onto h.below hc h.hB (fun i e => by subst e; exact h.st.lo), Nat.le_trans h.hB hc.size⟩, hc, hv⟩
theorem sync_in (h : SI B a w g rv dv md n rs ds D) (hl : rs.length ≤ 100000) :
    Calls Try.prog 11 #[.pointer (some ⟨g, 0, none⟩)] w fun e w' => ∃ v1, e = .returned (.int .i64 rs.length) ∧ SI B a w' g rv v1 md n rs rs D ∧ Ch (fun i => i = g) w w' ∧ (∀ k, v1.ownBlock = some k → w.heap.size ≤ k) :=
  (sync_any w h.st h.hB hl).mono fun e w' ⟨v1, he, ht, hc, hv⟩ => ⟨v1, he, ⟨ht, Ch.onto h.below hc h.hB (fun i e => by subst e; exact h.st.lo), Nat.le_trans h.hB hc.size⟩, hc, hv⟩
theorem crash_in (h : SI B a w g rv dv md n rs ds D) (hl : ds.length ≤ 100000) :
    Calls Try.prog 12 #[.pointer (some ⟨g, 0, none⟩)] w fun e w' => ∃ v1, e = .returned (.tuple #[]) ∧ SI B a w' g v1 dv md 0 ds ds (.map []) ∧ Ch (fun i => i = g ∨ i = md) w w' ∧ (∀ k, v1.ownBlock = some k → w.heap.size ≤ k) :=
  (crash_any w h.st h.hB hl).mono fun e w' ⟨v1, he, ht, hc, hv⟩ => ⟨v1, he, ⟨ht, Ch.onto h.below hc h.hB (fun i e => by rcases e with rfl | rfl; exact h.st.lo; exact h.st.lom), Nat.le_trans h.hB hc.size⟩, hc, hv⟩
end
theorem same_self (A A' : Option Addr) (l : List ByteArray) (ca cb : Nat) (w : World) (hA : RdS w A l) (hB : RdS w A' l) (hla : l.length ≤ 1000000) (hca : l.length ≤ ca) (hcb : l.length ≤ cb) :
    Calls Try.prog 13 #[.slice A l.length ca, .slice A' l.length cb] w fun e w' => e = .returned (.bool true) ∧ Drawn0 w w' :=
  (same_any A A' l l ca cb w hA hB hla hca hcb).mono fun e w' h => ⟨by rw [h.1, decide_eq_true rfl], h.2⟩
def xT : ByteArray := { data := #[120] }
def yT : ByteArray := { data := #[121] }
theorem awake_any (w : World) : Calls Try.prog 6 #[] w fun e w' => e = .returned (.bool true) ∧ Below w.heap.size w w' := by
  have HB := Aside0.mk (Below.refl w.heap.size w)
  go_enter Try.func6, Try.ntmps6
  go_wp2_with (go_at_call 7; refine (new_in _ HB.out (Nat.le_refl _)).mono ?_; rintro e w1 ⟨g, md, rfl, hl⟩; have HL := Aside0.mk hl; clear hl HB)
  refine (apply_in _ xT HL.out (by rfl) (by decide)).mono ?_
  rintro e w2 ⟨v2, rfl, hl, _, _⟩
  have zz_HL := Aside0.mk (hl); clear HL; have HL := zz_HL; clear zz_HL
  clear hl
  go_wp2_with fail
  refine (sync_in HL.out (by decide)).mono ?_
  rintro e w3 ⟨v3, rfl, hl, _, _⟩
  have zz_HL := Aside0.mk (hl); clear HL; have HL := zz_HL; clear zz_HL
  clear hl
  go_wp2_with fail
  refine (apply_in _ yT HL.out (by rfl) (by decide)).mono ?_
  rintro e w4 ⟨v4, rfl, hl, _, _⟩
  have zz_HL := Aside0.mk (hl); clear HL; have HL := zz_HL; clear zz_HL
  clear hl
  go_wp2_with fail
  refine (len_any _ HL.out.st).mono ?_
  rintro e w5 ⟨rfl, rfl⟩
  go_wp2_with fail
  refine (crash_in HL.out (by decide)).mono ?_
  rintro e w6 ⟨v6, rfl, hl, _, _⟩
  have zz_HL := Aside0.mk (hl); clear HL; have HL := zz_HL; clear zz_HL
  clear hl
  go_wp2_with fail
  refine (len_any _ HL.out.st).mono ?_
  rintro e w7 ⟨rfl, rfl⟩
  go_wp2_with fail
  refine (dur_any _ HL.out.st).mono ?_
  rintro e w8 ⟨rfl, rfl⟩
  go_wp2
  go_ret
  exact ⟨rfl, HL.out.below⟩
end Go.Proofs.Ytfijbhacobjjgac
