/- The contracts of the document's right, Note, Find. -/
import Derived.Test.YtfijbhacobjjgaaChainC
namespace Go.Proofs.Ytfijbhacobjjgaa
open Go.RowKit Go.Proofs.YtfijbhacobjjgaaW.PrintWords Go.Proofs.YtfijbhacobjjgaaW.PrintLast Go.Proofs.YtfijbhacobjjgaaW.PrintMore Go.Proofs.Ytfijbhacobjjgaa.Fr
set_option linter.unusedVariables false
set_option linter.unusedSimpArgs false
attribute [local go_sem] max2_int min2_int max_two min_two

open Go.Proofs.Ytfijbhacobjjgaa.Pl
theorem drawn_trans {a b c : World} (h : Drawn0 a b) (k : Drawn0 b c) : Drawn0 a c := by
  obtain ⟨⟨i, hi⟩⟩ := h
  obtain ⟨⟨j, hj⟩⟩ := k
  exact ⟨⟨i + j, by rw [hj, hi, World.drewN_drewN]⟩⟩
/-- The document's finder in memory. -/
structure RefAt (B : Nat) (w : World) (gw : Nat) (T : ByteArray) (v : Value) (l : List Int) : Prop where
  box : w.heap[gw]? = some (.cells #[.string T, v] 29 (0, 0))
  row : w.ownsRow B 3 1 v l.length (nums .i64 l)
  ne : some gw ≠ v.ownBlock
theorem own_nums {w : World} {k : IntKind} {base n : Nat} {e : TypeId} {v : Value} {l : List Int} (h : w.ownsRow base e 1 v n (nums k l)) : ∃ A c, v = .slice A l.length c ∧ l.length ≤ c ∧ ∀ i, i < l.length → ∃ g, A = some ⟨g, 0, none⟩ ∧ w.cell? ⟨g, i, none⟩ = some (.int k (l.getD i 0)) := by
  have hl : l.length = n := by have := h.1; rw [nums_length, Nat.mul_one] at this; exact this
  subst hl
  rcases h.2 with ⟨rfl, h0⟩ | ⟨g, cap, cur, rfl, hb, hh, hn, hc, hs, ht⟩
  · refine ⟨none, 0, by rw [h0], by omega, fun i hi => by omega⟩
  · refine ⟨_, cap, rfl, hn, fun i hi => ⟨g, rfl, ?_⟩⟩
    rw [blk_cell hh]
    have e1 : cur.toList.take l.length = nums k l := by simpa using ht
    have e2 : (cur.toList.take l.length)[i]? = (nums k l)[i]? := by rw [e1]
    rw [List.getElem?_take, if_pos hi] at e2
    rw [← Array.getElem?_toList, e2]
    simp [nums, hi, List.getD_eq_getElem?_getD]
variable {B gw : Nat} {w w1 : World} {T : ByteArray} {v : Value} {l : List Int}
theorem RefAt.below (x : RefAt B w gw T v l) (k : Below w.heap.size w w1) : RefAt B w1 gw T v l := ⟨blk_below x.box k, pw_own_below x.row k, x.ne⟩
theorem RefAt.ch {S : Nat → Prop} (x : RefAt B w gw T v l) (hc : Ch S w w1) (h1 : ¬ S gw) (h2 : ∀ k, v.ownBlock = some k → ¬ S k) : RefAt B w1 gw T v l := ⟨hc.blk x.box h1, hc.own x.row h2, x.ne⟩
theorem rright_any (a : Int) (ha : -9223372036854775808 ≤ a) (hT : T.size ≤ 2000) (x : RefAt B w gw T v l) : Calls Try.prog 17 #[.pointer (some ⟨gw, 0, none⟩), .int .i64 a] w fun e w' => e = .returned (.bool (rightB T.size a)) ∧ w = w' := by
  have c0 : w.cell? ⟨gw, 0, none⟩ = some (.string T) := (blk_cell x.box 0).trans rfl
  clear x
  by_cases h0 : 0 ≤ a
  · have hd0 : decide (0 ≤ a) = true := decide_eq_true h0
    by_cases h1 : a < (T.size : Int)
    · have hd1 : decide (a < (T.size : Int)) = true := decide_eq_true h1
      by_cases h2 : 3 ≤ (T.size : Int) - a
      · have hd2 : decide (3 ≤ (T.size : Int) - a) = true := decide_eq_true h2
        have E : Aside0 (rightB T.size a = true) := ⟨by unfold rightB; exact decide_eq_true (by omega)⟩
        go_enter Try.func17, Try.ntmps17
        go_wp2
        go_ret
        rw [E.out]
        exact ⟨rfl, rfl⟩
      · have hd2 : decide (3 ≤ (T.size : Int) - a) = false := decide_eq_false h2
        have E : Aside0 (rightB T.size a = false) := ⟨by unfold rightB; exact decide_eq_false (by omega)⟩
        go_enter Try.func17, Try.ntmps17
        go_wp2
        go_ret
        rw [E.out]
        exact ⟨rfl, rfl⟩
    · have hd1 : decide (a < (T.size : Int)) = false := decide_eq_false h1
      have E : Aside0 (rightB T.size a = false) := ⟨by unfold rightB; exact decide_eq_false (by omega)⟩
      go_enter Try.func17, Try.ntmps17
      go_wp2
      go_ret
      rw [E.out]
      exact ⟨rfl, rfl⟩
  · have hd0 : decide (0 ≤ a) = false := decide_eq_false h0
    have E : Aside0 (rightB T.size a = false) := ⟨by unfold rightB; exact decide_eq_false (by omega)⟩
    go_enter Try.func17, Try.ntmps17
    go_wp2
    go_ret
    rw [E.out]
    exact ⟨rfl, rfl⟩
theorem rnote_wrong (a : Int) (ha : -9223372036854775808 ≤ a) (hT : T.size ≤ 2000) (hr : rightB T.size a = false) (x : RefAt B w gw T v l) : Calls Try.prog 9 #[.pointer (some ⟨gw, 0, none⟩), .int .i64 a] w fun e w' => e = .returned (.bool false) ∧ w = w' := by
  have HX := Aside0.mk x
  have HR := Aside0.mk hr
  clear x hr
  go_enter Try.func9, Try.ntmps9
  go_wp2_with fail
  refine (rright_any a ha hT HX.out).mono ?_
  rintro e w1 ⟨rfl, rfl⟩
  rw [HR.out]
  go_wp2
  go_ret
  exact ⟨rfl, rfl⟩
/-- What Note of a new place leaves. -/
def RNotePost (B gw : Nat) (T : ByteArray) (v : Value) (l : List Int) (a : Int) (w : World) (e : Ending) (w' : World) : Prop := ∃ v', e = .returned (.bool true) ∧ RefAt B w' gw T v' (l ++ [a]) ∧ Ch (fun i => i = gw ∨ some i = v.ownBlock) w w' ∧ (v'.ownBlock = v.ownBlock ∨ ∃ b, v'.ownBlock = some b ∧ w.heap.size ≤ b)
theorem rnote_again (a : Nat) (hT : T.size ≤ 2000) (hr : rightB T.size a = true) (hm : (a : Int) ∈ l) (hl : l.length ≤ 1000) (x : RefAt B w gw T v l) : Calls Try.prog 9 #[.pointer (some ⟨gw, 0, none⟩), .int .i64 a] w fun e w' => e = .returned (.bool false) ∧ w = w' := by
  obtain ⟨A, c, rfl, hc, hrd⟩ := own_nums x.row
  have HX := Aside0.mk x
  have HR := Aside0.mk hr
  have HD := Aside0.mk hrd
  have c1 : w.cell? ⟨gw, 1, none⟩ = some (.slice A l.length c) := (blk_cell x.box 1).trans rfl
  have HM := Aside0.mk hm
  clear x hr hrd hm
  go_enter Try.func9, Try.ntmps9
  go_wp2_with fail
  refine (rright_any a (by omega) hT HX.out).mono ?_
  rintro e w1 ⟨rfl, rfl⟩
  rw [HR.out]
  go_wp2
  go_loopg [5] l.length (fun gk y wr => ∃ k : Nat, Aside0 (k + gk = l.length) ∧ y = .int .i64 k ∧ Aside0 (∀ i, i < k → l.getD i 0 ≠ (a : Int)) ∧ w = wr)
  case atStart => exact ⟨0, ⟨by omega⟩, rfl, ⟨fun i hi => by omega⟩, rfl⟩
  case round =>
    obtain ⟨k, HK, rfl, HN, rfl⟩ := hrel
    by_cases hlt : k < l.length
    · obtain ⟨g, rfl, hcell⟩ := HD.out k hlt
      by_cases hq : l.getD k 0 = (a : Int)
      · rw [hq] at hcell
        clear hq
        go_wp2
        go_ret
        exact ⟨rfl, rfl⟩
      · obtain ⟨z, hz⟩ : ∃ z, l.getD k 0 = z := ⟨_, rfl⟩
        rw [hz] at hcell
        have hzz : (z == (a : Int)) = false := by rw [← hz]; simpa using hq
        have HN2 : Aside0 (∀ i, i < k + 1 → l.getD i 0 ≠ (a : Int)) := ⟨fun i hi => by
          by_cases e : i = k
          · subst e; exact hq
          · exact HN.out i (by omega)⟩
        clear hq hz
        go_wp2
        go_roundg (gk - 1)
        case measure => have := HK.out; omega
        case rel => exact ⟨k + 1, ⟨by have := HK.out; omega⟩, by go_num, HN2, rfl⟩
    · exfalso
      obtain ⟨i, hi, he⟩ := List.getElem_of_mem HM.out
      exact HN.out i (by omega) (by simp [List.getD_eq_getElem?_getD, hi, he])
theorem info3' : (Try.prog.info? 3).map (fun i => (i.zero, i.size, i.bytes)) = some (some (.int .i64 0), 1, 8) := by kernel_rfl
set_option maxRecDepth 100000 in
theorem rnote_new (a : Nat) (hT : T.size ≤ 2000) (hr : rightB T.size a = true) (hm : ¬ (a : Int) ∈ l) (hl : l.length ≤ 1000) (hB : B ≤ w.heap.size) (x : RefAt B w gw T v l) : Calls Try.prog 9 #[.pointer (some ⟨gw, 0, none⟩), .int .i64 a] w (RNotePost B gw T v l a w) := by
  obtain ⟨A, c, hv, hc, hrd⟩ := own_nums x.row
  have HX := Aside0.mk x
  have HR := Aside0.mk hr
  have HD := Aside0.mk hrd
  have HV := Aside0.mk hv
  have c1 : w.cell? ⟨gw, 1, none⟩ = some (.slice A l.length c) := hv ▸ (blk_cell x.box 1).trans rfl
  have HM := Aside0.mk hm
  clear x hr hrd hm hv
  go_enter Try.func9, Try.ntmps9
  go_wp2_with fail
  refine (rright_any a (by omega) hT HX.out).mono ?_
  rintro e w1 ⟨rfl, rfl⟩
  rw [HR.out]
  go_wp2
  go_loopg [5] l.length (fun gk y wr => ∃ k : Nat, Aside0 (k + gk = l.length) ∧ y = .int .i64 k ∧ w = wr)
  case atStart => exact ⟨0, ⟨by omega⟩, rfl, rfl⟩
  case round =>
    obtain ⟨k, HK, rfl, rfl⟩ := hrel
    by_cases hlt : k < l.length
    · obtain ⟨g, rfl, hcell⟩ := HD.out k hlt
      obtain ⟨z, hz⟩ : ∃ z, l.getD k 0 = z := ⟨_, rfl⟩
      rw [hz] at hcell
      have hzz : (z == (a : Int)) = false := by
        have : z ∈ l := by rw [← hz]; simp [List.getD_eq_getElem?_getD, hlt]
        have h2 : z ≠ (a : Int) := fun e => HM.out (e ▸ this)
        simpa using h2
      clear hz
      go_wp2
      go_roundg (gk - 1)
      case measure => have := HK.out; omega
      case rel => exact ⟨k + 1, ⟨by have := HK.out; omega⟩, by go_num, rfl⟩
    · go_wp2_with ((with_reducible refine gate_dst (N := 35) rfl ?_); refine print_append_num (w0 := w) B rfl (.tmp 32) (.tmp 34) 27 3 .i64 8 rfl Try.underlying27 info3' (by decide) v l (a : Int) HV.out.symm rfl HX.out.row (Below.refl _ _) hB (by omega) ?_; intro v1 w1 hown hbel hgrow hat; obtain ⟨A1, c1, rfl, hc1, hr1⟩ := own_nums hown; have HW := Aside0.mk (And.intro hown (And.intro hgrow hat)); have HK2 := Aside0.mk (blk_grown HX.out.box hgrow HX.out.ne); have k1 : w1.cell? ⟨gw, 1, none⟩ = some v := (blk_cell HK2.out 1).trans rfl; have f1 := blk_frozen HK2.out 1; have hl1 : (l ++ [(a : Int)]).length = l.length + 1 := (by simp); clear hown hbel hgrow hat hc1 hr1)
      go_ret
      rw [hl1] at HW
      have hgl := blk_lt HX.out.box
      have hne : some gw ≠ (Value.slice A1 (l.length + 1) c1).ownBlock := by
        rcases HW.out.2.2 with e | ⟨b, e, hb⟩
        · rw [e]; exact HX.out.ne
        · rw [e]; intro e2; cases e2; omega
      exact ⟨.slice A1 (l.length + 1) c1, rfl, ⟨blk_put HK2.out 1 _ rfl, own_setCell (by rw [hl1]; exact HW.out.1) hne _, hne⟩, (Ch.grown HW.out.2.1 (fun k e => .inr e.symm)).set (.inl rfl), HW.out.2.2⟩
theorem rfind_wrong (a d : Int) (ha : -9223372036854775808 ≤ a) (hT : T.size ≤ 2000) (hr : rightB T.size a = false) (x : RefAt B w gw T v l) : Calls Try.prog 11 #[.pointer (some ⟨gw, 0, none⟩), .int .i64 a, .int .i64 d] w fun e w' => e = .returned (.tuple #[.int .i64 0, .int .i64 0]) ∧ w = w' := by
  have HX := Aside0.mk x
  have HR := Aside0.mk hr
  clear x hr
  go_enter Try.func11, Try.ntmps11
  go_wp2_with fail
  refine (rright_any a ha hT HX.out).mono ?_
  rintro e w1 ⟨rfl, rfl⟩
  rw [HR.out]
  go_wp2
  go_ret2
  exact ⟨rfl, rfl⟩
def ofNats (rs : List Nat) : List Int := rs.reverse.map (fun n : Nat => (n : Int))
theorem ofNats_get (d c : List Nat) (p : Nat) : (ofNats (d ++ p :: c)).getD c.length 0 = (p : Int) := by
  unfold ofNats
  simp [List.getD_eq_getElem?_getD, List.getElem?_append_left, List.getElem?_append_right]
theorem ofNats_len (rs : List Nat) : (ofNats rs).length = rs.length := by simp [ofNats]
set_option maxRecDepth 100000 in
set_option maxHeartbeats 4000000 in
theorem rfind_any (a : Nat) (ha : a + 3 ≤ T.size) (hT : T.size ≤ 2000) (d : Int) (rs : List Nat) (hrs : ∀ p ∈ rs, p + 3 ≤ T.size) (hlen : rs.length ≤ 2000) (x : RefAt B w gw T v (ofNats rs)) :
    Calls Try.prog 11 #[.pointer (some ⟨gw, 0, none⟩), .int .i64 a, .int .i64 d] w fun e w' => e = .returned (.tuple #[.int .i64 (found T rs a d).1, .int .i64 (found T rs a d).2]) ∧ Drawn0 w w' := by
  obtain ⟨A, cc, rfl, hc, hrd⟩ := own_nums x.row
  have HX := Aside0.mk x
  have hlr := ofNats_len rs
  have c0 : w.cell? ⟨gw, 0, none⟩ = some (.string T) := (blk_cell x.box 0).trans rfl
  have c1 : w.cell? ⟨gw, 1, none⟩ = some (.slice A rs.length cc) := by rw [← hlr]; exact (blk_cell x.box 1).trans rfl
  have HR : Aside0 (rightB T.size a = true) := ⟨by unfold rightB; exact decide_eq_true (by omega)⟩
  have hcase : (d < 0 ∧ depthN d = 0) ∨ (0 ≤ d ∧ d ≤ 1000 ∧ (depthN d : Int) = d) ∨ (1000 < d ∧ depthN d = 1000) := by
    unfold depthN mn mx
    (repeat' split) <;> omega
  obtain ⟨D, hD⟩ : ∃ D : Nat, depthN d = D := ⟨_, rfl⟩
  have HDE : Aside0 (found T rs a d = Pl.look (sm T) (thB T a) a rs D (0, 0)) := ⟨by unfold found; rw [hD]⟩
  rw [hD] at hcase
  have HC := Aside0.mk hcase
  rw [hlr] at hrd hc
  have HRD : Aside0 (∀ (dd c : List Nat) (p : Nat), rs = dd ++ p :: c → ∃ g, A = some ⟨g, 0, none⟩ ∧ w.cell? ⟨g, c.length, none⟩ = some (.int .i64 p)) := ⟨fun dd c p e => by
    obtain ⟨g, h1, h2⟩ := hrd c.length (by rw [e]; simp; omega)
    refine ⟨g, h1, ?_⟩
    rw [h2, e, ofNats_get]⟩
  have HRS := Aside0.mk hrs
  clear hD hrd hrs x hlr hcase
  go_enter Try.func11, Try.ntmps11
  go_wp2_with fail
  refine (rright_any a (by omega) hT HX.out).mono ?_
  rintro e w1 ⟨rfl, rfl⟩
  rw [HR.out]
  clear HR
  go_wp2
  go_loopg [8, 9, 10, 11] rs.length (fun gk x y z u wr => ∃ (c : List Nat) (k : Nat) (o n : Int) (s : Nat), Aside0 (c.length = gk) ∧ u = .int .i64 ((c.length : Int) - 1) ∧ x = .int .i64 o ∧ y = .int .i64 n ∧ z = .int .i64 (s : Int) ∧ Aside0 (Pl.look (sm T) (thB T a) a c k (o, n) = found T rs a d ∧ (∃ dd, rs = dd ++ c) ∧ (∀ p ∈ c, p + 3 ≤ T.size) ∧ s + k = D) ∧ Aside0 (Drawn0 w wr))
  case atStart => exact ⟨rs, D, 0, 0, 0, ⟨rfl⟩, by first | rfl | go_num, rfl, rfl, rfl, ⟨HDE.out.symm, ⟨[], rfl⟩, HRS.out, by omega⟩, ⟨Drawn0.refl _⟩⟩
  case round =>
    obtain ⟨c, k, o, n, s, HK, rfl, rfl, rfl, rfl, HI, HD⟩ := hrel
    have HXW := Aside0.mk (HX.out.below HD.out.below)
    have hk0 := HI.out.2.2.2
    have cx0 : wr.cell? ⟨gw, 0, none⟩ = some (.string T) := (blk_cell HXW.out.box 0).trans rfl
    have cx1 : wr.cell? ⟨gw, 1, none⟩ = some (.slice A rs.length cc) := pw_cell_below HD.out.below c1
    match c with
    | [] =>
      have HEND : Aside0 (found T rs a d = (o, n)) := ⟨by rw [← HI.out.1]; rfl⟩
      have hm1 : ((([] : List Nat).length : Int) - 1) = -1 := rfl
      rw [hm1]
      go_wp2
      go_ret2
      rw [HEND.out]
      exact ⟨rfl, HD.out⟩
    | p :: c =>
      have hp := HI.out.2.2.1 p (List.mem_cons_self ..)
      have HW2 : Aside0 ((∃ dd, rs = dd ++ c) ∧ ∀ p ∈ c, p + 3 ≤ T.size) := ⟨by obtain ⟨dd, e⟩ := HI.out.2.1; exact ⟨dd ++ [p], by simpa using e⟩, fun q hq => HI.out.2.2.1 q (List.mem_cons_of_mem _ hq)⟩
      have hclen : c.length < rs.length := by obtain ⟨dd, e⟩ := HI.out.2.1; rw [e]; simp; omega
      obtain ⟨g, rfl, hcell⟩ : ∃ g, A = some ⟨g, 0, none⟩ ∧ w.cell? ⟨g, c.length, none⟩ = some (.int .i64 p) := by obtain ⟨dd, e⟩ := HI.out.2.1; exact HRD.out dd c p e
      have hpc : wr.cell? ⟨g, c.length, none⟩ = some (.int .i64 p) := pw_cell_below HD.out.below hcell
      have hm1 : (((p :: c).length : Int) - 1) = (c.length : Int) := by simp
      rw [hm1]
      clear hm1 hcell c0 c1
      have hw1 : IntKind.i64.wrap ((p : Int) + 3) = ((p + 3 : Nat) : Int) := by rw [IntKind.wrap_i64]; omega
      have hw2 : IntKind.i64.wrap ((a : Int) + 3) = ((a + 3 : Nat) : Int) := by rw [IntKind.wrap_i64]; omega
      by_cases ht : three T p = three T a
      · have hst : ((T.extract p (p + 3)).toList == (T.extract a (a + 3)).toList) = true := by rw [str_beq]; exact decide_eq_true ht
        have hst' : ((T.extract p (p + 3)).toList != (T.extract a (a + 3)).toList) = false := by simp [bne, hst]
        have HT := Aside0.mk ht
        clear ht
        match k with
        | 0 =>
          have HEND : Aside0 (found T rs a d = (o, n)) := ⟨by rw [← HI.out.1]; rfl⟩
          have hc1 : d < (s : Int) + 1 ∨ ((s : Int) + 1 ≤ d ∧ s = 1000) := by have := HC.out; omega
          have hs1000 : (s : Int) ≤ 1000 := by have := HC.out; omega
          rcases hc1 with q1 | ⟨q1, q2⟩
          all_goals
            go_wp2
            go_quiet (fail)
            clear hw1 hw2
            go_wp2
            go_ret2
            rw [HEND.out]
            exact ⟨rfl, HD.out.step _⟩
        | k + 1 =>
          have hc1 : (s : Int) + 1 ≤ d := by have := HC.out; omega
          have hc2 : (s : Int) + 1 ≤ 1000 := by have := HC.out; omega
          have HL : Aside0 (found T rs a d = Pl.look (sm T) (thB T a) a c k (upd (sm T) a (o, n) p)) := ⟨by
            rw [← HI.out.1]
            simp only [Pl.look]
            rw [if_pos (show thB T a p = true from decide_eq_true HT.out)]⟩
          by_cases hge : a ≤ p
          · have HU : Aside0 (upd (sm T) a (o, n) p = (o, n)) := ⟨by unfold upd; rw [if_pos hge]⟩
            go_wp2
            go_quiet (fail)
            clear hw1 hw2
            go_wp2
            go_roundg (gk - 1)
            case measure => have := HK.out; simp at this; omega
            case rel => exact ⟨c, k, o, n, s + 1, ⟨by have := HK.out; simp at this; omega⟩, by go_num, rfl, rfl, by go_num, ⟨by rw [HL.out, HU.out], HW2.out.1, HW2.out.2, by omega⟩, ⟨HD.out.step _⟩⟩
          · obtain ⟨m, hm⟩ : ∃ m, sm T p a = m := ⟨_, rfl⟩
            have HSM : Aside0 (∀ w, Calls Try.prog 13 #[.string T, .int .i64 p, .int .i64 a] w fun e w' => e = .returned (.int .i64 m) ∧ Drawn0 w w') := ⟨fun w => by
              have := rsame_any T p a (by omega) w
              have e : smI T p a = m := by unfold smI; rw [if_neg (by omega)]; exact hm
              rwa [e] at this⟩
            have HUE : Aside0 (upd (sm T) a (o, n) p = if n < (m : Int) ∨ ((m : Int) = n ∧ (a : Int) - (p : Int) < o) then ((a : Int) - (p : Int), (m : Int)) else (o, n)) := ⟨by unfold upd; rw [if_neg hge, hm]⟩
            have hmle : m ≤ T.size := by have := sm_le T p a (by omega); omega
            clear hm
            go_wp2
            go_quiet (fail)
            clear hw1 hw2
            by_cases hn1 : n < (m : Int)
            · have HU : Aside0 (upd (sm T) a (o, n) p = ((a : Int) - (p : Int), (m : Int))) := ⟨by rw [HUE.out, if_pos (.inl hn1)]⟩
              go_wp2_with fail
              refine (HSM.out _).mono ?_
              rintro e w5 ⟨rfl, hd5⟩
              have HD5 := Aside0.mk hd5
              clear hd5
              go_wp2
              go_roundg (gk - 1)
              case measure => have := HK.out; simp at this; omega
              case rel => exact ⟨c, k, _, _, s + 1, ⟨by have := HK.out; simp at this; omega⟩, by go_num, rfl, rfl, by go_num, ⟨by rw [HL.out, HU.out], HW2.out.1, HW2.out.2, by have := HI.out.2.2.2; omega⟩, ⟨drawn_trans (HD.out.step _) HD5.out⟩⟩
            · by_cases hmn : (m : Int) = n
              · obtain rfl := hmn
                by_cases hao : (a : Int) - (p : Int) < o
                · have HU : Aside0 (upd (sm T) a (o, (m : Int)) p = ((a : Int) - (p : Int), (m : Int))) := ⟨by rw [HUE.out, if_pos (.inr ⟨rfl, hao⟩)]⟩
                  go_wp2_with fail
                  refine (HSM.out _).mono ?_
                  rintro e w5 ⟨rfl, hd5⟩
                  have HD5 := Aside0.mk hd5
                  clear hd5
                  go_wp2
                  go_roundg (gk - 1)
                  case measure => have := HK.out; simp at this; omega
                  case rel => exact ⟨c, k, _, _, s + 1, ⟨by have := HK.out; simp at this; omega⟩, by go_num, rfl, rfl, by go_num, ⟨by rw [HL.out, HU.out], HW2.out.1, HW2.out.2, by have := HI.out.2.2.2; omega⟩, ⟨drawn_trans (HD.out.step _) HD5.out⟩⟩
                · have HU : Aside0 (upd (sm T) a (o, (m : Int)) p = (o, (m : Int))) := ⟨by rw [HUE.out, if_neg (by omega)]⟩
                  go_wp2_with fail
                  refine (HSM.out _).mono ?_
                  rintro e w5 ⟨rfl, hd5⟩
                  have HD5 := Aside0.mk hd5
                  clear hd5
                  go_wp2
                  go_roundg (gk - 1)
                  case measure => have := HK.out; simp at this; omega
                  case rel => exact ⟨c, k, _, _, s + 1, ⟨by have := HK.out; simp at this; omega⟩, by go_num, rfl, rfl, by go_num, ⟨by rw [HL.out, HU.out], HW2.out.1, HW2.out.2, by have := HI.out.2.2.2; omega⟩, ⟨drawn_trans (HD.out.step _) HD5.out⟩⟩
              · have HU : Aside0 (upd (sm T) a (o, n) p = (o, n)) := ⟨by rw [HUE.out, if_neg (by omega)]⟩
                have hmn' : ((m : Int) == n) = false := by simpa using hmn
                clear hmn
                go_wp2_with fail
                refine (HSM.out _).mono ?_
                rintro e w5 ⟨rfl, hd5⟩
                have HD5 := Aside0.mk hd5
                clear hd5
                go_wp2
                go_roundg (gk - 1)
                case measure => have := HK.out; simp at this; omega
                case rel => exact ⟨c, k, _, _, s + 1, ⟨by have := HK.out; simp at this; omega⟩, by go_num, rfl, rfl, by go_num, ⟨by rw [HL.out, HU.out], HW2.out.1, HW2.out.2, by have := HI.out.2.2.2; omega⟩, ⟨drawn_trans (HD.out.step _) HD5.out⟩⟩
      · have hst : ((T.extract p (p + 3)).toList == (T.extract a (a + 3)).toList) = false := by rw [str_beq]; exact decide_eq_false ht
        have hst' : ((T.extract p (p + 3)).toList != (T.extract a (a + 3)).toList) = true := by simp [bne, hst]
        have HL : Aside0 (found T rs a d = Pl.look (sm T) (thB T a) a c k (o, n)) := ⟨by
          rw [← HI.out.1]
          cases k with
          | zero => rw [look_zero]; exact (look_zero ..).symm
          | succ k =>
            simp only [Pl.look]
            rw [if_neg (show ¬ thB T a p = true from fun h => ht (of_decide_eq_true h))]⟩
        have HT := Aside0.mk ht
        clear ht
        go_wp2
        go_quiet (fail)
        clear hw1 hw2
        go_wp2
        go_roundg (gk - 1)
        case measure => have := HK.out; simp at this; omega
        case rel => exact ⟨c, k, o, n, s, ⟨by have := HK.out; simp at this; omega⟩, by go_num, rfl, rfl, rfl, ⟨HL.out.symm, HW2.out.1, HW2.out.2, hk0⟩, ⟨HD.out.step _⟩⟩
end Go.Proofs.Ytfijbhacobjjgaa
