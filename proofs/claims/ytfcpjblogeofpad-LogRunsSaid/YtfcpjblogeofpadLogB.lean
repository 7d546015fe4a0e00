/- The contracts of log's At, and of the document's log (its Append, Truncate, At); of the document's Bytes; of the law's own same. -/
import Derived.Test.YtfcpjblogeofpadLogA
namespace Go.Proofs.Ytfcpjblogeofpad
open Go.RowKit Go.Proofs.YtfcpjblogeofpadW.PrintWords Go.Proofs.YtfcpjblogeofpadW.PrintLast Go.Proofs.YtfcpjblogeofpadW.PrintMore Go.Proofs.Ytfcpjblogeofpad.Fr
set_option linter.unusedVariables false
set_option linter.unusedSimpArgs false

def atL (l : List ByteArray) (base : Nat) (i : Int) : ByteArray × Int :=
  if i < 0 ∨ (l.length : Int) ≤ i then ({ data := #[] }, 10) else if i < base then ({ data := #[] }, 7) else (l.getD i.toNat ByteArray.empty, 0)
set_option maxHeartbeats 1000000 in
theorem at_any (B g : Nat) (v : Value) (l : List ByteArray) (base : Nat) (bytes : Int) (i : Int) (w : World) (h : LogAt B w g v l base bytes) : Calls Try.prog 15 #[.pointer (some ⟨g, 0, none⟩), .int .i64 i] w fun e w' => e = .returned (.tuple #[.string (atL l base i).1, .int .i64 (atL l base i).2]) ∧ w = w' := by
  have HL := Aside0.mk (fun w hw => len_any B g v l base bytes w hw)
  have H := Aside0.mk h
  obtain ⟨A, c, rfl, hc, hrd⟩ := h.slice
  have c0 : w.cell? ⟨g, 0, none⟩ = some (.slice A l.length c) := (blk_cell h.box 0).trans rfl
  have c1 : w.cell? ⟨g, 1, none⟩ = some (.int .i64 base) := (blk_cell h.box 1).trans rfl
  clear h
  by_cases h1 : i < 0
  · have hd : decide (i < 0) = true := decide_eq_true h1
    have E : Aside0 (atL l base i = ({ data := #[] }, 10)) := ⟨by unfold atL; rw [if_pos (.inl h1)]⟩
    go_enter Try.func15, Try.ntmps15
    go_wp2_with ((go_at_call 9; refine (HL.out _ H.out).mono ?_; rintro e w1 ⟨rfl, rfl⟩; skip))
    go_ret2
    rw [E.out]
    exact ⟨rfl, rfl⟩
  · have hd : decide (i < 0) = false := decide_eq_false h1
    by_cases h2 : (l.length : Int) ≤ i
    · have hd2 : decide ((l.length : Int) ≤ i) = true := decide_eq_true h2
      have E : Aside0 (atL l base i = ({ data := #[] }, 10)) := ⟨by unfold atL; rw [if_pos (.inr h2)]⟩
      go_enter Try.func15, Try.ntmps15
      go_wp2_with ((go_at_call 9; refine (HL.out _ H.out).mono ?_; rintro e w1 ⟨rfl, rfl⟩; skip))
      go_ret2
      rw [E.out]
      exact ⟨rfl, rfl⟩
    · have hd2 : decide ((l.length : Int) ≤ i) = false := decide_eq_false h2
      by_cases h3 : i < base
      · have hd3 : decide (i < (base : Int)) = true := decide_eq_true h3
        have E : Aside0 (atL l base i = ({ data := #[] }, 7)) := ⟨by unfold atL; rw [if_neg (by omega), if_pos h3]⟩
        go_enter Try.func15, Try.ntmps15
        go_wp2_with ((go_at_call 9; refine (HL.out _ H.out).mono ?_; rintro e w1 ⟨rfl, rfl⟩; skip))
        go_ret2
        rw [E.out]
        exact ⟨rfl, rfl⟩
      · obtain ⟨k, rfl⟩ : ∃ k : Nat, i = (k : Int) := ⟨i.toNat, by omega⟩
        have hd3 : decide ((k : Int) < (base : Int)) = false := decide_eq_false h3
        have hlt : k < l.length := by omega
        obtain ⟨ad, rfl, hcell⟩ := hrd k hlt
        have E : Aside0 (atL l base k = (l.getD k ByteArray.empty, 0)) := ⟨by unfold atL; rw [if_neg (by omega), if_neg h3]; simp⟩
        generalize l.getD k ByteArray.empty = x at hcell E
        go_enter Try.func15, Try.ntmps15
        go_wp2_with ((go_at_call 9; refine (HL.out _ H.out).mono ?_; rintro e w1 ⟨rfl, rfl⟩; skip))
        go_ret2
        rw [E.out]
        exact ⟨rfl, rfl⟩

/-- The document's log in memory. -/
structure RefAt (B : Nat) (w : World) (g : Nat) (v : Value) (l : List ByteArray) (base : Nat) : Prop where
  box : w.heap[g]? = some (.cells #[v, .int .i64 base] 36 (0, 0))
  row : w.ownsRow B 9 1 v (svals l).length (svals l)
  ne : some g ≠ v.ownBlock
theorem RefAt.ch {B g : Nat} {w w1 : World} {v : Value} {l : List ByteArray} {base : Nat} {S : Nat → Prop} (h : RefAt B w g v l base) (hc : Ch S w w1) (h1 : ¬ S g) (h2 : ∀ k, v.ownBlock = some k → ¬ S k) : RefAt B w1 g v l base :=
  ⟨hc.blk h.box h1, hc.own h.row h2, h.ne⟩
theorem RefAt.below {B g : Nat} {w w1 : World} {v : Value} {l : List ByteArray} {base : Nat} (h : RefAt B w g v l base) (hb : Below w.heap.size w w1) : RefAt B w1 g v l base :=
  ⟨blk_below h.box hb, pw_own_below h.row hb, h.ne⟩
theorem RefAt.slice {B g : Nat} {w : World} {v : Value} {l : List ByteArray} {base : Nat} (h : RefAt B w g v l base) : ∃ A c, v = .slice A l.length c ∧ l.length ≤ c ∧ RdS w A l := own_rds h.row
set_option maxRecDepth 100000 in
theorem rappend_long (g : Nat) (s : ByteArray) (w : World) (hs : 512 < s.size) : Calls Try.prog 13 #[.pointer (some ⟨g, 0, none⟩), .string s] w fun e w' => e = .returned (.tuple #[.int .i64 0, .int .i64 5]) ∧ w = w' := by
  have hb : (512 : Int) < (s.size : Int) := by omega
  go_enter Try.func13, Try.ntmps13
  go_wp2
  go_ret2
  exact ⟨rfl, rfl⟩
set_option maxRecDepth 100000 in
theorem rappend_full (B g : Nat) (v : Value) (l : List ByteArray) (base : Nat) (s : ByteArray) (w : World) (h : RefAt B w g v l base) (hs : s.size ≤ 512) (hl : l.length = 400) : Calls Try.prog 13 #[.pointer (some ⟨g, 0, none⟩), .string s] w fun e w' => e = .returned (.tuple #[.int .i64 0, .int .i64 2]) ∧ w = w' := by
  obtain ⟨A, c, rfl, _, _⟩ := h.slice
  have c0 : w.cell? ⟨g, 0, none⟩ = some (.slice A l.length c) := (blk_cell h.box 0).trans rfl
  have hq : ((l.length : Int) == 400) = true := by simp; omega
  have HL := Aside0.mk hl
  clear h hl
  go_enter Try.func13, Try.ntmps13
  go_wp2
  go_ret2
  exact ⟨rfl, rfl⟩
def RAppPost (B g : Nat) (v : Value) (l : List ByteArray) (base : Nat) (s : ByteArray) (w : World) (e : Ending) (w' : World) : Prop :=
  ∃ v1, e = .returned (.tuple #[.int .i64 l.length, .int .i64 0]) ∧ RefAt B w' g v1 (l ++ [s]) base ∧ Ch (two g v) w w' ∧ (v1.ownBlock = v.ownBlock ∨ ∃ b, v1.ownBlock = some b ∧ w.heap.size ≤ b)
set_option maxRecDepth 100000 in
set_option maxHeartbeats 1000000 in
theorem rappend_any (B g : Nat) (v : Value) (l : List ByteArray) (base : Nat) (s : ByteArray) (w : World) (h : RefAt B w g v l base) (hB : B ≤ w.heap.size) (hs : s.size ≤ 512) (hl : l.length < 400) :
    Calls Try.prog 13 #[.pointer (some ⟨g, 0, none⟩), .string s] w (RAppPost B g v l base s w) := by
  obtain ⟨A, c, hv, _, _⟩ := h.slice
  have c0 : w.cell? ⟨g, 0, none⟩ = some (.slice A l.length c) := hv ▸ (blk_cell h.box 0).trans rfl
  have hq : ((l.length : Int) == 400) = false := by simp; omega
  have H := Aside0.mk h
  have HV := Aside0.mk hv
  clear h hv
  go_enter Try.func13, Try.ntmps13
  go_wp2_with ((with_reducible refine gate_dst (N := 22) rfl ?_); refine print_append (w0 := w) B rfl (.tmp 19) (.tmp 21) 30 9 (.string ByteArray.empty) 16 rfl Try.underlying30 info9 (by rfl) (by decide) v (svals l) (.string s) HV.out.symm rfl (by rfl) H.out.row (Below.refl _ _) hB (by rw [svals_length]; omega) ?_; intro v1 w1 hown hbel hgrow hat; (rw [svals_snoc] at hown); obtain ⟨A1, c1, rfl, hc1, hr1⟩ := own_rds hown; have HW := Aside0.mk (And.intro hown (And.intro hgrow hat)); have HK := Aside0.mk (blk_grown H.out.box hgrow H.out.ne); have k0 : w1.cell? ⟨g, 0, none⟩ = some v := (blk_cell HK.out 0).trans rfl; have f0 := blk_frozen HK.out 0; have hl1 : (l ++ [s]).length = l.length + 1 := (by simp); clear hown hbel hgrow hat hc1 hr1)
  go_ret2
  rw [hl1] at HW
  have hgl := blk_lt H.out.box
  have hne : some g ≠ (Value.slice A1 (l.length + 1) c1).ownBlock := by
    rcases HW.out.2.2 with e | ⟨b, e, hb⟩
    · rw [e]; exact H.out.ne
    · rw [e]; intro e2; cases e2; omega
  refine ⟨.slice A1 (l.length + 1) c1, rfl, ⟨blk_put HK.out 0 _ rfl, own_setCell HW.out.1 hne _, hne⟩, (Ch.grown HW.out.2.1 (fun k e => .inr e.symm)).set (.inl rfl), HW.out.2.2⟩
theorem rtrunc_no (B g : Nat) (v : Value) (l : List ByteArray) (base : Nat) (n : Int) (w : World) (h : RefAt B w g v l base) (hn : n ≤ base ∨ (l.length : Int) < n) : Calls Try.prog 14 #[.pointer (some ⟨g, 0, none⟩), .int .i64 n] w fun e w' => e = .returned (.bool false) ∧ w = w' := by
  obtain ⟨A, c, rfl, _, _⟩ := h.slice
  have c0 : w.cell? ⟨g, 0, none⟩ = some (.slice A l.length c) := (blk_cell h.box 0).trans rfl
  have c1 : w.cell? ⟨g, 1, none⟩ = some (.int .i64 base) := (blk_cell h.box 1).trans rfl
  clear h
  by_cases h1 : n ≤ base
  · clear hn
    have hd : decide (n ≤ (base : Int)) = true := decide_eq_true h1
    go_enter Try.func14, Try.ntmps14
    go_wp2
    go_ret
    exact ⟨rfl, rfl⟩
  · have h2 : (l.length : Int) < n := hn.resolve_left h1
    have hd : decide (n ≤ (base : Int)) = false := decide_eq_false h1
    have hd2 : decide ((l.length : Int) < n) = true := decide_eq_true h2
    clear hn
    go_enter Try.func14, Try.ntmps14
    go_wp2
    go_ret
    exact ⟨rfl, rfl⟩
theorem rtrunc_yes (B g : Nat) (v : Value) (l : List ByteArray) (base : Nat) (n : Nat) (w : World) (h : RefAt B w g v l base) (h1 : base < n) (h2 : n ≤ l.length) : Calls Try.prog 14 #[.pointer (some ⟨g, 0, none⟩), .int .i64 n] w fun e w' => e = .returned (.bool true) ∧ RefAt B w' g v l n ∧ Ch (fun i => i = g) w w' := by
  obtain ⟨A, c, hv, _, _⟩ := h.slice
  have c0 : w.cell? ⟨g, 0, none⟩ = some (.slice A l.length c) := hv ▸ (blk_cell h.box 0).trans rfl
  have c1 : w.cell? ⟨g, 1, none⟩ = some (.int .i64 base) := (blk_cell h.box 1).trans rfl
  have f1 := blk_frozen h.box 1
  have H := Aside0.mk h
  clear h hv
  have hd : decide ((n : Int) ≤ (base : Int)) = false := decide_eq_false (by omega)
  have hd2 : decide ((l.length : Int) < (n : Int)) = false := decide_eq_false (by omega)
  go_enter Try.func14, Try.ntmps14
  go_wp2
  go_ret
  exact ⟨rfl, ⟨blk_put H.out.box 1 _ rfl, own_setCell H.out.row H.out.ne _, H.out.ne⟩, (Ch.refl _ _).set rfl⟩
set_option maxHeartbeats 1000000 in
theorem rat_any (B g : Nat) (v : Value) (l : List ByteArray) (base : Nat) (i : Int) (w : World) (h : RefAt B w g v l base) : Calls Try.prog 16 #[.pointer (some ⟨g, 0, none⟩), .int .i64 i] w fun e w' => e = .returned (.tuple #[.string (atL l base i).1, .int .i64 (atL l base i).2]) ∧ w = w' := by
  obtain ⟨A, c, rfl, hc, hrd⟩ := h.slice
  have c0 : w.cell? ⟨g, 0, none⟩ = some (.slice A l.length c) := (blk_cell h.box 0).trans rfl
  have c1 : w.cell? ⟨g, 1, none⟩ = some (.int .i64 base) := (blk_cell h.box 1).trans rfl
  clear h
  by_cases h1 : i < 0
  · have hd : decide (i < 0) = true := decide_eq_true h1
    have E : Aside0 (atL l base i = ({ data := #[] }, 10)) := ⟨by unfold atL; rw [if_pos (.inl h1)]⟩
    go_enter Try.func16, Try.ntmps16
    go_wp2
    go_ret2
    rw [E.out]
    exact ⟨rfl, rfl⟩
  · have hd : decide (i < 0) = false := decide_eq_false h1
    by_cases h2 : (l.length : Int) ≤ i
    · have hd2 : decide ((l.length : Int) ≤ i) = true := decide_eq_true h2
      have E : Aside0 (atL l base i = ({ data := #[] }, 10)) := ⟨by unfold atL; rw [if_pos (.inr h2)]⟩
      go_enter Try.func16, Try.ntmps16
      go_wp2
      go_ret2
      rw [E.out]
      exact ⟨rfl, rfl⟩
    · have hd2 : decide ((l.length : Int) ≤ i) = false := decide_eq_false h2
      by_cases h3 : i < base
      · have hd3 : decide (i < (base : Int)) = true := decide_eq_true h3
        have E : Aside0 (atL l base i = ({ data := #[] }, 7)) := ⟨by unfold atL; rw [if_neg (by omega), if_pos h3]⟩
        go_enter Try.func16, Try.ntmps16
        go_wp2
        go_ret2
        rw [E.out]
        exact ⟨rfl, rfl⟩
      · obtain ⟨k, rfl⟩ : ∃ k : Nat, i = (k : Int) := ⟨i.toNat, by omega⟩
        have hd3 : decide ((k : Int) < (base : Int)) = false := decide_eq_false h3
        have hlt : k < l.length := by omega
        obtain ⟨ad, rfl, hcell⟩ := hrd k hlt
        have E : Aside0 (atL l base k = (l.getD k ByteArray.empty, 0)) := ⟨by unfold atL; rw [if_neg (by omega), if_neg h3]; simp⟩
        generalize l.getD k ByteArray.empty = x at hcell E
        go_enter Try.func16, Try.ntmps16
        go_wp2
        go_ret2
        rw [E.out]
        exact ⟨rfl, rfl⟩

theorem list_ne {a b : List ByteArray} {k : Nat} (h : a.getD k ByteArray.empty ≠ b.getD k ByteArray.empty) : a ≠ b := fun e => h (by rw [e])
theorem list_eq {a b : List ByteArray} (hl : a.length = b.length) (h : ∀ i, i < a.length → a.getD i ByteArray.empty = b.getD i ByteArray.empty) : a = b := by
  apply List.ext_getElem hl
  intro i h1 h2
  have := h i h1
  simpa [List.getD_eq_getElem?_getD, h1, h2] using this
set_option maxHeartbeats 1000000 in
/-- same: are these texts the same? -/
theorem same_any (A B : Option Addr) (a b : List ByteArray) (ca cb : Nat) (w : World) (hA : RdS w A a) (hB : RdS w B b) (hla : a.length ≤ 1000000) (hca : a.length ≤ ca) (hcb : b.length ≤ cb) :
    Calls Try.prog 19 #[.slice A a.length ca, .slice B b.length cb] w fun e w' => e = .returned (.bool (decide (a = b))) ∧ Drawn0 w w' := by
  by_cases hl : a.length = b.length
  · have hneq : ((a.length : Int) == (b.length : Int)) = true := by simp; omega
    have HL := Aside0.mk hl
    have HA := Aside0.mk hA
    have HB := Aside0.mk hB
    clear hl hA hB
    go_enter Try.func19, Try.ntmps19
    go_wp2
    go_loopg [13] a.length (fun d v13 wr => ∃ k : Nat, Aside0 (k + d = a.length) ∧ v13 = .int .i64 k ∧ Aside0 (∀ i, i < k → a.getD i ByteArray.empty = b.getD i ByteArray.empty) ∧ Aside0 (Drawn0 w wr))
    case atStart => exact ⟨0, ⟨by omega⟩, rfl, ⟨fun i hi => by omega⟩, ⟨Drawn0.refl w⟩⟩
    case round =>
      obtain ⟨k, HK, rfl, HE, HD⟩ := hrel
      by_cases hlt : k < a.length
      · obtain ⟨x, hx⟩ : ∃ x, a.getD k ByteArray.empty = x := ⟨_, rfl⟩
        obtain ⟨y, hy⟩ : ∃ y, b.getD k ByteArray.empty = y := ⟨_, rfl⟩
        obtain ⟨ad, rfl, hc1⟩ := HA.out k hlt
        obtain ⟨bd, rfl, hc2⟩ := HB.out k (by have := HL.out; omega)
        rw [hx] at hc1
        rw [hy] at hc2
        have HX := Aside0.mk hx
        have HY := Aside0.mk hy
        have hkb : (k : Int) < (b.length : Int) := by have := HL.out; omega
        have hd1 : wr.cell? (ad.add k) = some (.string x) := by obtain ⟨⟨nq, rfl⟩⟩ := HD.out; exact hc1
        have hd2 : wr.cell? (bd.add k) = some (.string y) := by obtain ⟨⟨nq, rfl⟩⟩ := HD.out; exact hc2
        clear hx hy hc1 hc2
        by_cases hxy : x = y
        · have hne : (x.toList == y.toList) = true := by rw [str_beq]; simpa using hxy
          have HXY := Aside0.mk hxy
          clear hxy
          go_wp2
          go_region
          all_goals go_wp2
          all_goals go_roundg (gk - 1)
          case measure => have := HK.out; omega
          case rel => exact ⟨k + 1, ⟨by have := HK.out; omega⟩, by go_num, ⟨fun i hi => by
            by_cases e : i = k
            · subst e; rw [HX.out, HY.out, HXY.out]
            · exact HE.out i (by omega)⟩, ⟨HD.out.step 1⟩⟩
        · have hne : (x.toList == y.toList) = false := by rw [str_beq]; simpa using hxy
          have HXY := Aside0.mk hxy
          clear hxy
          go_wp2
          go_region
          all_goals go_wp2
          all_goals go_ret
          have hab : a ≠ b := list_ne (k := k) (by rw [HX.out, HY.out]; exact HXY.out)
          exact ⟨by simp [hab], HD.out.step 1⟩
      · go_wp2
        go_ret
        have hab : a = b := list_eq HL.out (fun i hi => HE.out i (by omega))
        exact ⟨by simp [hab], HD.out⟩
  · have hneq : ((a.length : Int) == (b.length : Int)) = false := by simp; omega
    have hab : a ≠ b := fun e => hl (by rw [e])
    have HAB := Aside0.mk hab
    clear hab hl
    go_enter Try.func19, Try.ntmps19
    go_wp2
    go_ret
    exact ⟨by simp [HAB.out], Drawn0.refl w⟩

end Go.Proofs.Ytfcpjblogeofpad
