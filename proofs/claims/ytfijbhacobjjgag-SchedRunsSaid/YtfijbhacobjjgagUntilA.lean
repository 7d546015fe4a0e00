/- A schedule's Until. -/
import Derived.Test.YtfijbhacobjjgagDropA
namespace Go.Proofs.Ytfijbhacobjjgag
open Go.RowKit Go.Proofs.YtfijbhacobjjgagW.PrintWords Go.Proofs.YtfijbhacobjjgagW.PrintLast Go.Proofs.YtfijbhacobjjgagW.PrintMore Go.Proofs.Ytfijbhacobjjgag.Fr
set_option linter.unusedVariables false
set_option linter.unusedSimpArgs false
attribute [local go_sem] max2_int min2_int max_two min_two

open Pl Hp
def ac (a : Ac) : List Value := [.int .i64 a.k, .int .i64 a.nd, .int .i64 a.n, .bool a.up, .string a.s]
def acs (l : List Ac) : List Value := l.flatMap ac
theorem acs_snoc (l : List Ac) (x : Ac) : acs l ++ ac x = acs (l ++ [x]) := by simp [acs]
theorem acs_len (l : List Ac) : (acs l).length = l.length * 5 := by
  induction l with
  | nil => rfl
  | cons e r ih => simp [acs, ac] at ih ⊢; omega
def due (tm : Int) (e : E) : Bool := decide (e.t ≤ tm)
theorem infoA5 : (Try.prog.info? 28).map (fun i => (i.zero, i.size, i.bytes)) = some (some (.agg #[.int .i64 0, .int .i64 0, .int .i64 0, .bool false, .string ByteArray.empty]), 5, 48) := by kernel_rfl
theorem acs_own {w : World} {B : Nat} {v : Value} {l : List Ac} {x : Ac} (h : w.ownsRow B 28 5 v (l ++ [x]).length (acs (l ++ [x]))) : ∃ g c, v = .slice (some ⟨g, 0, none⟩) (l ++ [x]).length c ∧ B ≤ g := by
  rcases h.2 with ⟨_, h0⟩ | ⟨g, cap, cur, rfl, hb, _⟩
  · simp at h0
  · exact ⟨g, cap, rfl, hb⟩
theorem _root_.Go.Proofs.Ytfijbhacobjjgag.Fr.Ch.below2 {S : Nat → Prop} {w w1 w2 : World} (h : Ch S w w1) (k : Below w.heap.size w1 w2) : Ch S w w2 :=
  ⟨k.os.trans h.os, k.tape.trans h.tape, k.output.trans h.output, Nat.le_trans h.size k.size, fun i hi hs => (k.block i hi).trans (h.block i hi hs)⟩
theorem ch_of_low {n : Nat} {w w1 : World} (k : Below n w w1) : Ch (fun i => n ≤ i) w w1 := ⟨k.os, k.tape, k.output, k.size, fun i hi hs => k.block i (by omega)⟩
section
variable {B s : Nat} {w w1 : World} {v v1 : Value} {now ord : Int} {l l1 : List E}
def UntilPost (B s : Nat) (v : Value) (now ord : Int) (D : List E) (tm : Int) (W : World) (e : Ending) (w' : World) : Prop :=
  ∃ v1 H' A c, e = .returned (.slice A (D.takeWhile (due tm)).length c) ∧ w'.ownsRow W.heap.size 28 5 (.slice A (D.takeWhile (due tm)).length c) (D.takeWhile (due tm)).length (acs ((D.takeWhile (due tm)).map (·.a))) ∧
    SC B w' s v1 (max now (min tm 1099511627776)) ord H' ∧ Sch ez H' (D.dropWhile (due tm)) ord ∧ Ch (fun k => k = s ∨ some k = v.ownBlock) W w' ∧ v1.ownBlock = v.ownBlock
set_option maxHeartbeats 2000000 in
theorem until_any (tm : Int) (D : List E) (w0 : World) (h : SC B w0 s v now ord l) (hs : Sch ez l D ord) (ht : ∀ x ∈ D, x.t ≤ 1099511627776) (hB : B ≤ w0.heap.size) (hl : l.length ≤ 1000) :
    Calls Try.prog 15 #[.pointer (some ⟨s, 0, none⟩), .int .i64 tm] w0 (UntilPost B s v now ord D tm w0) := by
  have H := Aside0.mk (And.intro h (And.intro hs (And.intro ht hl)))
  have HLO : Aside0 (s < w0.heap.size ∧ ∀ k, v.ownBlock = some k → k < w0.heap.size) := ⟨blk_lt h.box, fun k e => own_lt h.row k e⟩
  clear h hs ht
  go_enter Try.func15, Try.ntmps15
  go_wp2_with fail
  go_loopg [5] D.length (fun d x5 wr => ∃ (o : List Ac) (A : Option Addr) (c : Nat) (vi : Value) (nw : Int) (Hi Di : List E), x5 = .slice A o.length c ∧ Aside0 (Di.length = d ∧ o ++ (Di.takeWhile (due tm)).map (·.a) = (D.takeWhile (due tm)).map (·.a) ∧ Di.dropWhile (due tm) = D.dropWhile (due tm) ∧ max nw (min tm 1099511627776) = max now (min tm 1099511627776) ∧ (∀ x ∈ Di, x.t ≤ 1099511627776) ∧ Sch ez Hi Di ord ∧ Hi.length ≤ 1000 ∧ o.length + Di.length ≤ 1000) ∧
    Aside0 (wr.ownsRow w0.heap.size 28 5 (.slice A o.length c) o.length (acs o) ∧ SC B wr s vi nw ord Hi ∧ vi.ownBlock = v.ownBlock ∧ Ch (fun k => k = s ∨ some k = v.ownBlock) w0 wr))
  case atStart => exact ⟨[], none, 0, v, now, l, D, rfl, ⟨rfl, rfl, rfl, rfl, H.out.2.2.1, H.out.2.1, H.out.2.2.2, by have := H.out.2.1.len; have := H.out.2.2.2; simp; omega⟩, ⟨own_nil _ _ _ _, H.out.1, rfl, Ch.refl _ _⟩⟩
  case round =>
    clear H
    obtain ⟨o, A, c, vi, nw, Hi, Di, rfl, HI, HW⟩ := hrel
    rcases Di with _ | ⟨y, r⟩
    · obtain rfl : Hi = [] := List.eq_nil_of_length_eq_zero (by rw [HI.out.2.2.2.2.2.1.len]; rfl)
      go_wp2_with fail
      refine (peek_none HW.out.2.1).mono ?_
      rintro e w1 ⟨rfl, rfl⟩
      have HE : Aside0 (o = (D.takeWhile (due tm)).map (·.a) ∧ Sch ez [] (D.dropWhile (due tm)) ord) := ⟨by have := HI.out.2.1; simpa using this, by rw [← HI.out.2.2.1]; exact HI.out.2.2.2.2.2.1⟩
      have k1 : wr.cell? ⟨s, 1, none⟩ = some (.int .i64 nw) := (blk_cell HW.out.2.1.box 1).trans rfl
      have f1 := blk_frozen HW.out.2.1.box 1
      obtain ⟨z, hz⟩ : ∃ z, max nw (min tm 1099511627776) = z := ⟨_, rfl⟩
      have HZ : Aside0 (max now (min tm 1099511627776) = z) := ⟨HI.out.2.2.2.1.symm.trans hz⟩
      have fin : UntilPost B s v now ord D tm w0 (.returned (.slice A o.length c)) (wr.setCell ⟨s, 1, none⟩ (.int .i64 z)) := by
        have hol : o.length = (D.takeWhile (due tm)).length := by rw [HE.out.1, List.length_map]
        have hso : ∀ k, (Value.slice A o.length c).ownBlock = some k → w0.heap.size ≤ k := fun k e => own_base HW.out.1 k e
        have hrow := own_setCell (p := ⟨s, 1, none⟩) HW.out.1 (fun e => by have := hso s e.symm; have := HLO.out.1; omega) (.int .i64 z)
        refine ⟨vi, _, A, c, by rw [hol], by rw [← hol, ← HE.out.1]; exact hrow, ⟨by rw [HZ.out]; exact blk_put HW.out.2.1.box 1 _ rfl, own_setCell HW.out.2.1.row HW.out.2.1.ne _, HW.out.2.1.ne, HW.out.2.1.lo⟩, HE.out.2, HW.out.2.2.2.set (.inl rfl), HW.out.2.2.1⟩
      have FIN := Aside0.mk fin
      clear fin HE HW HI HLO HZ 
      rcases (by omega : (tm ≤ 1099511627776 ∧ ¬ nw < tm ∧ z = nw) ∨ (tm ≤ 1099511627776 ∧ nw < tm ∧ z = tm) ∨ (1099511627776 < tm ∧ ¬ nw < 1099511627776 ∧ z = nw) ∨ (1099511627776 < tm ∧ nw < 1099511627776 ∧ z = 1099511627776)) with ⟨a1, a2, rfl⟩ | ⟨a1, a2, rfl⟩ | ⟨a1, a2, rfl⟩ | ⟨a1, a2, rfl⟩
      all_goals
        clear hz
        go_wp2
        go_ret
        exact FIN.out
    · obtain ⟨hsn, hh0, hdn⟩ := HI.out.2.2.2.2.2.1.next
      have hHl : Hi.length = r.length + 1 := by rw [HI.out.2.2.2.2.2.1.len]; simp
      go_wp2_with fail
      refine (peek_any HW.out.2.1 (by omega) (by have := HI.out; omega)).mono ?_
      rintro e w1 ⟨rfl, rfl⟩
      rw [hh0]
      by_cases hd : y.t ≤ tm
      · have hnd : ¬ tm < y.t := by omega
        have HD : Aside0 ((y :: r).takeWhile (due tm) = y :: r.takeWhile (due tm) ∧ (y :: r).dropWhile (due tm) = r.dropWhile (due tm)) := ⟨by rw [List.takeWhile_cons, if_pos (by simp [due, hd])], by rw [List.dropWhile_cons, if_pos (by simp [due, hd])]⟩
        go_wp2_with fail
        refine (next_any r.length wr HW.out.2.1 hHl (by have := HI.out.2.2.2.2.2.2.1; omega)).mono ?_
        rintro e w4 ⟨y', v4, hy', rfl, hs4, hc4, hv4⟩
        have hyy : y' = y := by rw [hy', ← hdn, hHl, Nat.add_sub_cancel]
        subst hyy
        have hyt : y'.t ≤ 1099511627776 := HI.out.2.2.2.2.1 _ (List.mem_cons_self ..)
        have HI2 : Aside0 (r.length + 1 = gk ∧ (o ++ [y'.a]) ++ (r.takeWhile (due tm)).map (·.a) = (D.takeWhile (due tm)).map (·.a) ∧ r.dropWhile (due tm) = D.dropWhile (due tm) ∧ max (max nw y'.t) (min tm 1099511627776) = max now (min tm 1099511627776) ∧ (∀ x ∈ r, x.t ≤ 1099511627776) ∧ Sch ez (pop elt ez Hi) r ord ∧ (pop elt ez Hi).length ≤ 1000 ∧ o.length + 1 + r.length ≤ 1000) := ⟨by
          obtain ⟨i1, i2, i3, i4, i5, i6, i7, i8⟩ := HI.out
          refine ⟨by simpa using i1, ?_, ?_, by omega, fun x hx => i5 x (List.mem_cons_of_mem _ hx), hsn, by rw [hsn.len]; simp at i8; omega, by simp at i8; omega⟩
          · rw [HD.out.1] at i2; rw [← i2]; simp
          · rw [← i3, HD.out.2]⟩
        have HW2 : Aside0 (w4.ownsRow w0.heap.size 28 5 (.slice A o.length c) o.length (acs o) ∧ SC B w4 s v4 (max nw y'.t) ord (pop elt ez Hi) ∧ v4.ownBlock = v.ownBlock ∧ Ch (fun k => k = s ∨ some k = v.ownBlock) w0 w4) := ⟨hc4.own HW.out.1 (fun k e => by
            have h1 := own_base HW.out.1 k e
            rintro (e2 | e2)
            · have := HLO.out.1; omega
            · rw [HW.out.2.2.1] at e2; have := HLO.out.2 k e2.symm; omega), hs4, hv4.trans HW.out.2.2.1, HW.out.2.2.2.trans (hc4.mono fun i _ e => by rwa [HW.out.2.2.1] at e)⟩
        have hsz : w0.heap.size ≤ w4.heap.size + 1 := Nat.le_succ_of_le HW2.out.2.2.2.size
        have HSZ := Aside0.mk hsz
        have hal : Below w4.heap.size w4 (w4.alloc (.cells #[.int .i64 y'.a.k, .int .i64 y'.a.nd, .int .i64 y'.a.n, .bool y'.a.up, .string y'.a.s] 28)) := below_alloc (Below.refl _ _) _
        have HA : Aside0 ((w4.alloc (.cells #[.int .i64 y'.a.k, .int .i64 y'.a.nd, .int .i64 y'.a.n, .bool y'.a.up, .string y'.a.s] 28)).ownsRow w0.heap.size 28 5 (.slice A o.length c) o.length (acs o) ∧ SC B (w4.alloc (.cells #[.int .i64 y'.a.k, .int .i64 y'.a.nd, .int .i64 y'.a.n, .bool y'.a.up, .string y'.a.s] 28)) s v4 (max nw y'.t) ord (pop elt ez Hi) ∧ Ch (fun k => k = s ∨ some k = v.ownBlock) w0 (w4.alloc (.cells #[.int .i64 y'.a.k, .int .i64 y'.a.nd, .int .i64 y'.a.n, .bool y'.a.up, .string y'.a.s] 28)) ∧ (w4.alloc (.cells #[.int .i64 y'.a.k, .int .i64 y'.a.nd, .int .i64 y'.a.n, .bool y'.a.up, .string y'.a.s] 28)).heap.size = w4.heap.size + 1) := ⟨pw_own_below HW2.out.1 hal, HW2.out.2.1.below hal, HW2.out.2.2.2.alloc _, by simp⟩
        clear hs4 hc4 hv4 hsn hh0 hdn hHl hy' HI HD hal hsz hyt
        unfold actV
        go_wp2_with ((with_reducible refine gate_dst (N := 33) rfl ?_); refine app_cells (w0 := _) w0.heap.size rfl (.tmp 30) (.tmp 32) 36 28 (.agg #[.int .i64 0, .int .i64 0, .int .i64 0, .bool false, .string ByteArray.empty]) 5 48 (w4.heap.size + 1) rfl Try.underlying36 infoA5 rfl (by decide) (by decide) (.slice A o.length c) o.length (acs o) [.int .i64 y'.a.k, .int .i64 y'.a.nd, .int .i64 y'.a.n, .bool y'.a.up, .string y'.a.s] rfl rfl HA.out.2.2.2 rfl (by simp [Value.oneCell']) HA.out.1 (Below.refl _ _) HSZ.out (by have := HI2.out; omega) ?_; intro v1 w5 hown hbel hgrow hat; have HW3 := Aside0.mk (And.intro hown hbel); clear hown hbel hgrow hat)
        have hown2 : w5.ownsRow w0.heap.size 28 5 v1 (o ++ [y'.a]).length (acs (o ++ [y'.a])) := by
          rw [← acs_snoc, List.length_append]; exact HW3.out.1
        obtain ⟨g1, c3, rfl, _⟩ := acs_own hown2
        have HW4 : Aside0 (w5.ownsRow w0.heap.size 28 5 (.slice (some ⟨g1, 0, none⟩) (o ++ [y'.a]).length c3) (o ++ [y'.a]).length (acs (o ++ [y'.a])) ∧ SC B w5 s v4 (max nw y'.t) ord (pop elt ez Hi) ∧ v4.ownBlock = v.ownBlock ∧ Ch (fun k => k = s ∨ some k = v.ownBlock) w0 w5) := ⟨hown2, HA.out.2.1.ch (ch_of_low HW3.out.2) (by have := HLO.out.1; omega) (fun k e => by rw [HW2.out.2.2.1] at e; have := HLO.out.2 k e; omega), HW2.out.2.2.1, HA.out.2.2.1.below2 HW3.out.2⟩
        clear hown2 HW HW2 HW3 HA
        go_wp2
        go_roundg r.length
        case measure => have := HI2.out; omega
        case rel => exact ⟨o ++ [y'.a], _, _, _, _, _, r, rfl, ⟨by
          obtain ⟨i1, i2, i3, i4, i5, i6, i7, i8⟩ := HI2.out
          exact ⟨rfl, i2, i3, i4, i5, i6, i7, by rw [List.length_append]; simp; omega⟩⟩, HW4⟩
      · have hnd : tm < y.t := by omega
        have HE : Aside0 (o = (D.takeWhile (due tm)).map (·.a) ∧ Sch ez Hi (D.dropWhile (due tm)) ord) := ⟨by have := HI.out.2.1; rw [List.takeWhile_cons, if_neg (by simp [due]; omega)] at this; simpa using this, by rw [← HI.out.2.2.1, List.dropWhile_cons, if_neg (by simp [due]; omega)]; exact HI.out.2.2.2.2.2.1⟩
        have k1 : wr.cell? ⟨s, 1, none⟩ = some (.int .i64 nw) := (blk_cell HW.out.2.1.box 1).trans rfl
        have f1 := blk_frozen HW.out.2.1.box 1
        obtain ⟨z, hz⟩ : ∃ z, max nw (min tm 1099511627776) = z := ⟨_, rfl⟩
        have HZ : Aside0 (max now (min tm 1099511627776) = z) := ⟨HI.out.2.2.2.1.symm.trans hz⟩
        have fin : UntilPost B s v now ord D tm w0 (.returned (.slice A o.length c)) (wr.setCell ⟨s, 1, none⟩ (.int .i64 z)) := by
          have hol : o.length = (D.takeWhile (due tm)).length := by rw [HE.out.1, List.length_map]
          have hso : ∀ k, (Value.slice A o.length c).ownBlock = some k → w0.heap.size ≤ k := fun k e => own_base HW.out.1 k e
          have hrow := own_setCell (p := ⟨s, 1, none⟩) HW.out.1 (fun e => by have := hso s e.symm; have := HLO.out.1; omega) (.int .i64 z)
          refine ⟨vi, _, A, c, by rw [hol], by rw [← hol, ← HE.out.1]; exact hrow, ⟨by rw [HZ.out]; exact blk_put HW.out.2.1.box 1 _ rfl, own_setCell HW.out.2.1.row HW.out.2.1.ne _, HW.out.2.1.ne, HW.out.2.1.lo⟩, HE.out.2, HW.out.2.2.2.set (.inl rfl), HW.out.2.2.1⟩
        have FIN := Aside0.mk fin
        clear fin HE HW HI HLO HZ hsn hh0 hdn hHl
        rcases (by omega : (tm ≤ 1099511627776 ∧ ¬ nw < tm ∧ z = nw) ∨ (tm ≤ 1099511627776 ∧ nw < tm ∧ z = tm) ∨ (1099511627776 < tm ∧ ¬ nw < 1099511627776 ∧ z = nw) ∨ (1099511627776 < tm ∧ nw < 1099511627776 ∧ z = 1099511627776)) with ⟨a1, a2, rfl⟩ | ⟨a1, a2, rfl⟩ | ⟨a1, a2, rfl⟩ | ⟨a1, a2, rfl⟩
        all_goals
          clear hz
          go_wp2
          go_ret
          exact FIN.out
end
end Go.Proofs.Ytfijbhacobjjgag
