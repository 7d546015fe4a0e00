/- The document's Until. -/
import Derived.Test.YtfijbhacobjjgagDocD
namespace Go.Proofs.Ytfijbhacobjjgag
open Go.RowKit Go.Proofs.YtfijbhacobjjgagW.PrintWords Go.Proofs.YtfijbhacobjjgagW.PrintLast Go.Proofs.YtfijbhacobjjgagW.PrintMore Go.Proofs.Ytfijbhacobjjgag.Fr
set_option linter.unusedVariables false
set_option linter.unusedSimpArgs false
attribute [local go_sem] max2_int min2_int max_two min_two

open Pl Hp
section
variable {B b : Nat} {w w1 : World} {pa pt : Option (Nat × Nat)} {ca ct : Nat} {now : Int} {D : List E} {S : Nat → Prop}
def Sub (p1 p : Option (Nat × Nat)) : Prop := ∀ q, p1 = some q → ∃ q', p = some q' ∧ q'.1 = q.1
theorem Sub.refl (p : Option (Nat × Nat)) : Sub p p := fun q e => ⟨q, e, rfl⟩
theorem Sub.cut {p1 p : Option (Nat × Nat)} (h : Sub p1 p) (c m sz : Nat) : Sub (cutp c m sz p1) p := fun q e => by
  obtain ⟨q1, e1, e2⟩ := cutp_blk e
  obtain ⟨q2, e3, e4⟩ := h q1 e1
  exact ⟨q2, e3, e4.trans e2⟩
def RUntilPost (B b : Nat) (pa pt : Option (Nat × Nat)) (now : Int) (D : List E) (tm : Int) (W : World) (e : Ending) (w' : World) : Prop :=
  ∃ pa1 pt1 ca1 ct1 A c, e = .returned (.slice A (D.takeWhile (due tm)).length c) ∧ w'.ownsRow W.heap.size 28 5 (.slice A (D.takeWhile (due tm)).length c) (D.takeWhile (due tm)).length (acs ((D.takeWhile (due tm)).map (·.a))) ∧
    DS B w' b pa1 pt1 ca1 ct1 (max now (brI tm 0 1099511627776)) (D.dropWhile (due tm)) ∧ Ch (fun i => i = b) W w' ∧ Sub pa1 pa ∧ Sub pt1 pt
set_option maxRecDepth 100000 in
set_option maxHeartbeats 8000000 in
theorem runtil_any (tm : Int) (w0 : World) (h : DS B w0 b pa pt ca ct now D) (hB : B ≤ w0.heap.size) (ht : ∀ x ∈ D, x.t ≤ 1099511627776) (hl : D.length ≤ 1000) :
    Calls Try.prog 16 #[.pointer (some ⟨b, 0, none⟩), .int .i64 tm] w0 (RUntilPost B b pa pt now D tm w0) := by
  have H := Aside0.mk (And.intro h (And.intro hB ht))
  have HLO : Aside0 (b < w0.heap.size) := ⟨blk_lt h.box⟩
  have HLOA : Aside0 ((∀ q, pa = some q → q.1 < w0.heap.size) ∧ ∀ q, pt = some q → q.1 < w0.heap.size) := ⟨fun q e => (h.ba q e).2.2, fun q e => (h.bt q e).2.2⟩
  clear h hB ht
  go_enter Try.func16, Try.ntmps16
  go_wp2_with fail
  go_loopg [5] D.length (fun d x5 wr => ∃ (o : List Ac) (A : Option Addr) (c : Nat) (pai pti : Option (Nat × Nat)) (cai cti : Nat) (nw : Int) (Di : List E), x5 = .slice A o.length c ∧ Aside0 (Di.length = d ∧ o ++ (Di.takeWhile (due tm)).map (·.a) = (D.takeWhile (due tm)).map (·.a) ∧ Di.dropWhile (due tm) = D.dropWhile (due tm) ∧ max nw (brI tm 0 1099511627776) = max now (brI tm 0 1099511627776) ∧ (∀ x ∈ Di, x.t ≤ 1099511627776) ∧ o.length + Di.length ≤ 1000) ∧
    Aside0 (wr.ownsRow w0.heap.size 28 5 (.slice A o.length c) o.length (acs o) ∧ DS B wr b pai pti cai cti nw Di ∧ Ch (fun i => i = b) w0 wr ∧ Sub pai pa ∧ Sub pti pt))
  case atStart => exact ⟨[], none, 0, pa, pt, ca, ct, now, D, rfl, ⟨rfl, rfl, rfl, rfl, H.out.2.2, by simpa using hl⟩, ⟨own_nil _ _ _ _, H.out.1, Ch.refl _ _, Sub.refl _, Sub.refl _⟩⟩
  case round =>
    clear H
    obtain ⟨o, A, c, pai, pti, cai, cti, nw, Di, rfl, HI, HW⟩ := hrel
    rcases Di with _ | ⟨y, r⟩
    · have k1 : wr.cell? ⟨b, 1, none⟩ = some (.slice (ap pai) 0 cai) := (blk_cell HW.out.2.1.box 1).trans rfl
      have HE : Aside0 (o = (D.takeWhile (due tm)).map (·.a) ∧ [] = D.dropWhile (due tm)) := ⟨by have := HI.out.2.1; simpa using this, by rw [← HI.out.2.2.1]; rfl⟩
      obtain ⟨z, hz⟩ : ∃ z, max nw (brI tm 0 1099511627776) = z := ⟨_, rfl⟩
      have HZ := Aside0.mk hz
      have HZ2 : Aside0 (max now (brI tm 0 1099511627776) = z) := ⟨HI.out.2.2.2.1.symm.trans hz⟩
      clear hz
      go_upto_region 5 with fail
      go_wp2
      obtain ⟨wd, hwd⟩ : ∃ wd, wr.drew = wd := ⟨_, rfl⟩
      have HS : Aside0 (wd.heap[b]? = some (.cells #[.int .i64 nw, .slice (ap pai) 0 cai, .slice (ap pti) 0 cti] 38 (0, 0))) := ⟨hwd ▸ HW.out.2.1.box⟩
      have FIN : Aside0 (RUntilPost B b pa pt now D tm w0 (.returned (.slice A o.length c)) (wd.setCell ⟨b, 0, none⟩ (.int .i64 z))) := ⟨by
        have hol : o.length = (D.takeWhile (due tm)).length := by rw [HE.out.1, List.length_map]
        have hso : ∀ k, (Value.slice A o.length c).ownBlock = some k → w0.heap.size ≤ k := fun k e => own_base HW.out.1 k e
        have hch : Ch (fun k => k = b) wr (wd.setCell ⟨b, 0, none⟩ (.int .i64 z)) := by rw [← hwd]; exact ((Ch.refl (fun k => k = b) wr).drew).set rfl
        have hrow := hch.own HW.out.1 (fun k e => by have := hso k e; have := HLO.out; omega)
        have hds := HW.out.2.1
        have hd2 : ([] : List E) = D.dropWhile (due tm) := HE.out.2
        refine ⟨pai, pti, cai, cti, A, c, by rw [hol], by rw [← hol, ← HE.out.1]; exact hrow, ⟨?_, ?_, ?_, by rw [← hd2]; exact hds.la, by rw [← hd2]; exact hds.lt, fun q e => ?_, fun q e => ?_, hds.na, hds.nt, hds.lo⟩, HW.out.2.2.1.trans hch, HW.out.2.2.2⟩
        · rw [HZ2.out, ← hd2]; exact blk_put HS.out 0 _ rfl
        · rw [← hd2]; exact hds.ra.ch hch (fun q e => (hds.ba q e).1)
        · rw [← hd2]; exact hds.rt.ch hch (fun q e => (hds.bt q e).1)
        · exact ⟨(hds.ba q e).1, (hds.ba q e).2.1, Nat.lt_of_lt_of_le (hds.ba q e).2.2 hch.size⟩
        · exact ⟨(hds.bt q e).1, (hds.bt q e).2.1, Nat.lt_of_lt_of_le (hds.bt q e).2.2 hch.size⟩⟩
      clear HE HW HI HLO HZ2 k1
      refine St.steadyW (n := 11) (by kernel_rfl) ([] :: [] :: [(1, 34)] :: [(2, 35)] :: [(3, 36)] :: [] :: [(5, 38)] :: [(4, 37), (6, 39)] :: [(0, 33)] :: [(8, 41)] :: [(7, 40), (9, 42)] :: []) (some 33 :: some 34 :: some 35 :: some 36 :: some 37 :: some 38 :: some 39 :: some 40 :: some 41 :: some 42 :: none :: []) (by kernel_rfl) 10 (0 :: 0 :: 0 :: 0 :: 0 :: 0 :: 0 :: 0 :: 0 :: 0 :: 1 :: []) (by kernel_rfl) rfl (by decide) ((St.eqT ?c5_0x11) :: (St.eqT ?c5_1x11) :: (St.eqT ?c5_2x11) :: (St.eqT ?c5_3x11) :: (St.eqT (.int .i64 nw)) :: (St.eqT ?c5_5x11) :: (St.eqT ?c5_6x11) :: (St.eqT (.int .i64 z)) :: (St.eqT ?c5_8x11) :: (St.eqT ?c5_9x11) :: (St.eqT undef) :: []) rfl (by rfl) (fun w' => w' = wd) (fun w w' => w = w') (fun w w' => w' = w.setCell ⟨b, 0, none⟩ (.int .i64 z)) (fun w' => w' = wd.setCell ⟨b, 0, none⟩ (.int .i64 z)) (fun w w' => w = w') ?hst ?h0 ?hB ?hC ?hop ?hend
      case hop =>
        refine ⟨?_, ?_, ?_, ?_, ?_, ?_, ?_, ?_, ?_, ?_, ?_, trivial⟩
        · intro w hB
          simp only [St.withD]
          refine St.ob_value (v := ?_) (w' := w) (by rfl) ?_ ⟨rfl, ?_⟩
          rotate_left
          · go_simp
            with_reducible rfl
          · rfl
        · intro w hB
          simp only [St.withD]
          refine St.ob_value (v := ?_) (w' := w) (by rfl) ?_ ⟨rfl, ?_⟩
          rotate_left
          · go_simp
            with_reducible rfl
          · rfl
        · intro w hB; rintro _ ⟨_, rfl⟩
          simp only [St.withD, List.nil_append, List.cons_append, Act.put, List.setIfInBounds_toArray, List.set_cons_zero, List.set_cons_succ]
          refine St.ob_value (v := ?_) (w' := w) (by rfl) ?_ ⟨rfl, ?_⟩
          rotate_left
          · go_simp
            with_reducible rfl
          · rfl
        · intro w hB; rintro _ ⟨_, rfl⟩
          simp only [St.withD, List.nil_append, List.cons_append, Act.put, List.setIfInBounds_toArray, List.set_cons_zero, List.set_cons_succ]
          refine St.ob_value (v := ?_) (w' := w) (by rfl) ?_ ⟨rfl, ?_⟩
          rotate_left
          · go_simp
            with_reducible rfl
          · rfl
        · intro w hB; rintro _ ⟨_, rfl⟩
          simp only [St.withD, List.nil_append, List.cons_append, Act.put, List.setIfInBounds_toArray, List.set_cons_zero, List.set_cons_succ]
          have hs := HS.out
          rw [← hB] at hs
          have c0 : w.cell? ⟨b, 0, none⟩ = some (.int .i64 nw) := (blk_cell hs 0).trans rfl
          clear hB
          refine St.ob_value (v := ?_) (w' := w) (by rfl) ?_ ⟨rfl, ?_⟩
          rotate_left
          · go_simp
            with_reducible rfl
          · rfl
        · intro w hB
          simp only [St.withD]
          refine St.ob_value (v := ?_) (w' := w) (by rfl) ?_ ⟨rfl, ?_⟩
          rotate_left
          · go_simp
            with_reducible rfl
          · rfl
        · intro w hB; rintro _ ⟨_, rfl⟩
          simp only [St.withD, List.nil_append, List.cons_append, Act.put, List.setIfInBounds_toArray, List.set_cons_zero, List.set_cons_succ]
          refine St.ob_call Try.func25 (by kernel_rfl) rfl #[.int .i64 tm, .int .i64 0, .int .i64 1099511627776] (by rfl) rfl (by (try simp only [List.map_toArray, List.map_cons, List.map_nil]); first | done | rfl | (simp only [List.length_drop, List.length_take]; rfl)) ?_
          refine (bring_any tm 0 1099511627776 (by decide) w).mono ?_
          rintro e w1 ⟨rfl, rfl⟩
          refine ⟨_, rfl, rfl, ?_⟩
          rfl
        · intro w hB; rintro _ ⟨_, rfl⟩ _ ⟨_, rfl⟩
          simp only [St.withD, List.nil_append, List.cons_append, Act.put, List.setIfInBounds_toArray, List.set_cons_zero, List.set_cons_succ]
          refine St.ob_value (v := .int .i64 z) (w' := w) (by rfl) ?_ ⟨rfl, rfl⟩
          clear hB
          obtain ⟨bb, hbb⟩ : ∃ bb, brI tm 0 1099511627776 = bb := ⟨_, rfl⟩
          have hz := HZ.out
          rw [hbb] at hz ⊢
          by_cases hm : nw < bb
          · have e : z = bb := by omega
            rw [e]
            clear hz
            go_simp
            try omega
          · have e : z = nw := by omega
            rw [e]
            clear hz
            go_simp
            try omega
        · intro w hB; rintro _ ⟨_, rfl⟩
          simp only [St.withD, List.nil_append, List.cons_append, Act.put, List.setIfInBounds_toArray, List.set_cons_zero, List.set_cons_succ]
          refine St.ob_value (v := ?_) (w' := w) (by rfl) ?_ ⟨rfl, ?_⟩
          rotate_left
          · go_simp
            with_reducible rfl
          · rfl
        · intro w hB; rintro _ ⟨_, rfl⟩
          simp only [St.withD, List.nil_append, List.cons_append, Act.put, List.setIfInBounds_toArray, List.set_cons_zero, List.set_cons_succ]
          refine St.ob_value (v := ?_) (w' := w) (by rfl) ?_ ⟨rfl, ?_⟩
          rotate_left
          · go_simp
            with_reducible rfl
          · rfl
        · intro w hB; rintro _ ⟨_, rfl⟩ _ ⟨_, rfl⟩
          simp only [St.withD, List.nil_append, List.cons_append, Act.put, List.setIfInBounds_toArray, List.set_cons_zero, List.set_cons_succ]
          have hs := HS.out
          rw [← hB] at hs
          have c1 : w.cell? ⟨b, 0, none⟩ = some (.int .i64 nw) := (blk_cell hs 0).trans rfl
          have f1 := blk_frozen hs 0
          refine St.ob_skip (w' := w.setCell ⟨b, 0, none⟩ (.int .i64 z)) (by rfl) ?_ ⟨⟨rfl, by rw [hB]⟩, rfl⟩
          clear hs hB
          go_simp
      case hst => exact ⟨St.eqT_st, St.eqT_st, St.eqT_st, St.eqT_st, St.eqT_st, St.eqT_st, St.eqT_st, St.eqT_st, St.eqT_st, St.eqT_st, St.eqT_st, trivial⟩
      case h0 => exact hwd
      case hB => exact fun w w' h e => e ▸ h
      case hC => (intro w w' h e; subst e; exact h)
      case hend =>
        intro w hB
        rintro _ rfl _ rfl _ rfl _ rfl _ rfl _ rfl _ rfl _ rfl _ rfl _ rfl _ rfl
        simp only [List.map_cons, List.map_nil, List.nil_append, List.cons_append, List.getD_cons_zero, List.getD_cons_succ, Act.put, List.setIfInBounds_toArray, List.set_cons_zero, List.set_cons_succ]
        rw [St.withE_nil]
        subst hB
        go_wp2
        go_ret
        exact FIN.out
    · obtain ⟨gt, ot, e, et⟩ := HW.out.2.1.rt.tm 0 (by simp)
      obtain ⟨m, hm⟩ : ∃ m, r.length = m := ⟨_, rfl⟩
      have hbx := HW.out.2.1.box
      rw [show (y :: r).length = m + 1 by simp [hm]] at hbx
      have k1 : wr.cell? ⟨b, 1, none⟩ = some (.slice (ap pai) (m + 1) cai) := (blk_cell hbx 1).trans rfl
      have k2 : wr.cell? ⟨b, 2, none⟩ = some (.slice (some ⟨gt, ot, none⟩) (m + 1) cti) := by rw [e] at hbx; exact (blk_cell hbx 2).trans rfl
      obtain ⟨yt, hyt⟩ : ∃ yt, y.t = yt := ⟨_, rfl⟩
      simp only [List.getD_cons_zero, Nat.add_zero, hyt] at et
      have hpos : (0 : Int) < (m : Int) + 1 := by omega
      by_cases hd : yt ≤ tm
      · have HD : Aside0 ((y :: r).takeWhile (due tm) = y :: r.takeWhile (due tm) ∧ (y :: r).dropWhile (due tm) = r.dropWhile (due tm)) := ⟨by rw [List.takeWhile_cons, if_pos (by simp [due, hyt, hd])], by rw [List.dropWhile_cons, if_pos (by simp [due, hyt, hd])]⟩
        have hyE : y.t ≤ 1099511627776 := HI.out.2.2.2.2.1 _ (List.mem_cons_self ..)
        have hyb : y.t ≤ brI tm 0 1099511627776 := by unfold brI; omega
        have HI2 : Aside0 (r.length + 1 = gk ∧ (o ++ [y.a]) ++ (r.takeWhile (due tm)).map (·.a) = (D.takeWhile (due tm)).map (·.a) ∧ r.dropWhile (due tm) = D.dropWhile (due tm) ∧ max (max nw y.t) (brI tm 0 1099511627776) = max now (brI tm 0 1099511627776) ∧ (∀ x ∈ r, x.t ≤ 1099511627776) ∧ o.length + 1 + r.length ≤ 1000) := ⟨by
          obtain ⟨i1, i2, i3, i4, i5, i6⟩ := HI.out
          refine ⟨by simpa using i1, ?_, ?_, by rw [← i4]; omega, fun x hx => i5 x (List.mem_cons_of_mem _ hx), by simp at i6; omega⟩
          · rw [HD.out.1] at i2; rw [← i2]; simp
          · rw [← i3, HD.out.2]⟩
        clear hyE hyb HI HD e hbx hm hyt
        go_wp2_with fail
        refine (rnext_any y r wr HW.out.2.1).mono ?_
        rintro e w4 ⟨rfl, hds4, hc4⟩
        have HW2 : Aside0 (w4.ownsRow w0.heap.size 28 5 (.slice A o.length c) o.length (acs o) ∧ DS B w4 b (cutp cai 1 5 pai) (cutp cti 1 1 pti) (cai - 1) (cti - 1) (max nw y.t) r ∧ Ch (fun i => i = b) w0 w4 ∧ Sub (cutp cai 1 5 pai) pa ∧ Sub (cutp cti 1 1 pti) pt) := ⟨hc4.own HW.out.1 (fun k e => by have h1 := own_base HW.out.1 k e; have := HLO.out; omega), hds4, HW.out.2.2.1.trans hc4, HW.out.2.2.2.1.cut _ _ _, HW.out.2.2.2.2.cut _ _ _⟩
        have hsz : w0.heap.size ≤ w4.heap.size + 1 := Nat.le_succ_of_le HW2.out.2.2.1.size
        have HSZ := Aside0.mk hsz
        have hal : Below w4.heap.size w4 (w4.alloc (.cells #[.int .i64 y.a.k, .int .i64 y.a.nd, .int .i64 y.a.n, .bool y.a.up, .string y.a.s] 28)) := below_alloc (Below.refl _ _) _
        have HA : Aside0 ((w4.alloc (.cells #[.int .i64 y.a.k, .int .i64 y.a.nd, .int .i64 y.a.n, .bool y.a.up, .string y.a.s] 28)).ownsRow w0.heap.size 28 5 (.slice A o.length c) o.length (acs o) ∧ DS B (w4.alloc (.cells #[.int .i64 y.a.k, .int .i64 y.a.nd, .int .i64 y.a.n, .bool y.a.up, .string y.a.s] 28)) b (cutp cai 1 5 pai) (cutp cti 1 1 pti) (cai - 1) (cti - 1) (max nw y.t) r ∧ Ch (fun k => k = b) w0 (w4.alloc (.cells #[.int .i64 y.a.k, .int .i64 y.a.nd, .int .i64 y.a.n, .bool y.a.up, .string y.a.s] 28)) ∧ (w4.alloc (.cells #[.int .i64 y.a.k, .int .i64 y.a.nd, .int .i64 y.a.n, .bool y.a.up, .string y.a.s] 28)).heap.size = w4.heap.size + 1) := ⟨pw_own_below HW2.out.1 hal, HW2.out.2.1.below hal, HW2.out.2.2.1.alloc _, by simp⟩
        clear hds4 hc4 hal hsz k1 k2 et hpos
        unfold actV
        go_wp2_with ((with_reducible refine gate_dst (N := 32) rfl ?_); refine app_cells (w0 := _) w0.heap.size rfl (.tmp 29) (.tmp 31) 36 28 (.agg #[.int .i64 0, .int .i64 0, .int .i64 0, .bool false, .string ByteArray.empty]) 5 48 (w4.heap.size + 1) rfl Try.underlying36 infoA5 rfl (by decide) (by decide) (.slice A o.length c) o.length (acs o) [.int .i64 y.a.k, .int .i64 y.a.nd, .int .i64 y.a.n, .bool y.a.up, .string y.a.s] rfl rfl HA.out.2.2.2 rfl (by simp [Value.oneCell']) HA.out.1 (Below.refl _ _) HSZ.out (by have := HI2.out; omega) ?_; intro v1 w5 hown hbel hgrow hat; have HW3 := Aside0.mk (And.intro hown hbel); clear hown hbel hgrow hat)
        have hown2 : w5.ownsRow w0.heap.size 28 5 v1 (o ++ [y.a]).length (acs (o ++ [y.a])) := by
          rw [← acs_snoc, List.length_append]; exact HW3.out.1
        obtain ⟨g1, c3, rfl, _⟩ := acs_own hown2
        have HW4 : Aside0 (w5.ownsRow w0.heap.size 28 5 (.slice (some ⟨g1, 0, none⟩) (o ++ [y.a]).length c3) (o ++ [y.a]).length (acs (o ++ [y.a])) ∧ DS B w5 b (cutp cai 1 5 pai) (cutp cti 1 1 pti) (cai - 1) (cti - 1) (max nw y.t) r ∧ Ch (fun i => i = b) w0 w5 ∧ Sub (cutp cai 1 5 pai) pa ∧ Sub (cutp cti 1 1 pti) pt) := ⟨hown2, HA.out.2.1.ch (ch_of_low HW3.out.2) (by
          have hlow := HLOA.out
          rintro i (e | ⟨q, e, rfl⟩ | ⟨q, e, rfl⟩)
          · have := HLO.out; omega
          · obtain ⟨q', e1, e2⟩ := HW2.out.2.2.2.1 q e
            have := hlow.1 q' e1; omega
          · obtain ⟨q', e1, e2⟩ := HW2.out.2.2.2.2 q e
            have := hlow.2 q' e1; omega), HA.out.2.2.1.below2 HW3.out.2, HW2.out.2.2.2.1, HW2.out.2.2.2.2⟩
        clear hown2 HW HW2 HW3 HA
        go_wp2
        go_roundg r.length
        case measure => have := HI2.out; omega
        case rel => exact ⟨o ++ [y.a], _, _, _, _, _, _, _, r, rfl, ⟨by
          obtain ⟨i1, i2, i3, i4, i5, i6⟩ := HI2.out
          exact ⟨rfl, i2, i3, i4, i5, by rw [List.length_append]; simp; omega⟩⟩, HW4⟩
      · have hnd : tm < yt := by omega
        have HE : Aside0 (o = (D.takeWhile (due tm)).map (·.a) ∧ y :: r = D.dropWhile (due tm)) := ⟨by have := HI.out.2.1; rw [List.takeWhile_cons, if_neg (by simp [due]; omega)] at this; simpa using this, by rw [← HI.out.2.2.1, List.dropWhile_cons, if_neg (by simp [due]; omega)]⟩
        clear e hbx hm hyt
        obtain ⟨z, hz⟩ : ∃ z, max nw (brI tm 0 1099511627776) = z := ⟨_, rfl⟩
        have HZ := Aside0.mk hz
        have HZ2 : Aside0 (max now (brI tm 0 1099511627776) = z) := ⟨HI.out.2.2.2.1.symm.trans hz⟩
        clear hz
        go_upto_region 5 with fail
        go_wp2
        obtain ⟨wd, hwd⟩ : ∃ wd, wr.drew = wd := ⟨_, rfl⟩
        have HS : Aside0 (wd.heap[b]? = some (.cells #[.int .i64 nw, .slice (ap pai) (y :: r).length cai, .slice (ap pti) (y :: r).length cti] 38 (0, 0))) := ⟨hwd ▸ HW.out.2.1.box⟩
        have FIN : Aside0 (RUntilPost B b pa pt now D tm w0 (.returned (.slice A o.length c)) (wd.setCell ⟨b, 0, none⟩ (.int .i64 z))) := ⟨by
          have hol : o.length = (D.takeWhile (due tm)).length := by rw [HE.out.1, List.length_map]
          have hso : ∀ k, (Value.slice A o.length c).ownBlock = some k → w0.heap.size ≤ k := fun k e => own_base HW.out.1 k e
          have hch : Ch (fun k => k = b) wr (wd.setCell ⟨b, 0, none⟩ (.int .i64 z)) := by rw [← hwd]; exact ((Ch.refl (fun k => k = b) wr).drew).set rfl
          have hrow := hch.own HW.out.1 (fun k e => by have := hso k e; have := HLO.out; omega)
          have hds := HW.out.2.1
          have hd2 : y :: r = D.dropWhile (due tm) := HE.out.2
          refine ⟨pai, pti, cai, cti, A, c, by rw [hol], by rw [← hol, ← HE.out.1]; exact hrow, ⟨?_, ?_, ?_, by rw [← hd2]; exact hds.la, by rw [← hd2]; exact hds.lt, fun q e => ?_, fun q e => ?_, hds.na, hds.nt, hds.lo⟩, HW.out.2.2.1.trans hch, HW.out.2.2.2⟩
          · rw [HZ2.out, ← hd2]; exact blk_put HS.out 0 _ rfl
          · rw [← hd2]; exact hds.ra.ch hch (fun q e => (hds.ba q e).1)
          · rw [← hd2]; exact hds.rt.ch hch (fun q e => (hds.bt q e).1)
          · exact ⟨(hds.ba q e).1, (hds.ba q e).2.1, Nat.lt_of_lt_of_le (hds.ba q e).2.2 hch.size⟩
          · exact ⟨(hds.bt q e).1, (hds.bt q e).2.1, Nat.lt_of_lt_of_le (hds.bt q e).2.2 hch.size⟩⟩
        clear HE HW HI HLO HZ2 k1
        refine St.steadyW (n := 11) (by kernel_rfl) ([] :: [] :: [(1, 34)] :: [(2, 35)] :: [(3, 36)] :: [] :: [(5, 38)] :: [(4, 37), (6, 39)] :: [(0, 33)] :: [(8, 41)] :: [(7, 40), (9, 42)] :: []) (some 33 :: some 34 :: some 35 :: some 36 :: some 37 :: some 38 :: some 39 :: some 40 :: some 41 :: some 42 :: none :: []) (by kernel_rfl) 10 (0 :: 0 :: 0 :: 0 :: 0 :: 0 :: 0 :: 0 :: 0 :: 0 :: 1 :: []) (by kernel_rfl) rfl (by decide) ((St.eqT ?c5_0x11) :: (St.eqT ?c5_1x11) :: (St.eqT ?c5_2x11) :: (St.eqT ?c5_3x11) :: (St.eqT (.int .i64 nw)) :: (St.eqT ?c5_5x11) :: (St.eqT ?c5_6x11) :: (St.eqT (.int .i64 z)) :: (St.eqT ?c5_8x11) :: (St.eqT ?c5_9x11) :: (St.eqT undef) :: []) rfl (by rfl) (fun w' => w' = wd) (fun w w' => w = w') (fun w w' => w' = w.setCell ⟨b, 0, none⟩ (.int .i64 z)) (fun w' => w' = wd.setCell ⟨b, 0, none⟩ (.int .i64 z)) (fun w w' => w = w') ?hst ?h0 ?hB ?hC ?hop ?hend
        case hop =>
          refine ⟨?_, ?_, ?_, ?_, ?_, ?_, ?_, ?_, ?_, ?_, ?_, trivial⟩
          · intro w hB
            simp only [St.withD]
            refine St.ob_value (v := ?_) (w' := w) (by rfl) ?_ ⟨rfl, ?_⟩
            rotate_left
            · go_simp
              with_reducible rfl
            · rfl
          · intro w hB
            simp only [St.withD]
            refine St.ob_value (v := ?_) (w' := w) (by rfl) ?_ ⟨rfl, ?_⟩
            rotate_left
            · go_simp
              with_reducible rfl
            · rfl
          · intro w hB; rintro _ ⟨_, rfl⟩
            simp only [St.withD, List.nil_append, List.cons_append, Act.put, List.setIfInBounds_toArray, List.set_cons_zero, List.set_cons_succ]
            refine St.ob_value (v := ?_) (w' := w) (by rfl) ?_ ⟨rfl, ?_⟩
            rotate_left
            · go_simp
              with_reducible rfl
            · rfl
          · intro w hB; rintro _ ⟨_, rfl⟩
            simp only [St.withD, List.nil_append, List.cons_append, Act.put, List.setIfInBounds_toArray, List.set_cons_zero, List.set_cons_succ]
            refine St.ob_value (v := ?_) (w' := w) (by rfl) ?_ ⟨rfl, ?_⟩
            rotate_left
            · go_simp
              with_reducible rfl
            · rfl
          · intro w hB; rintro _ ⟨_, rfl⟩
            simp only [St.withD, List.nil_append, List.cons_append, Act.put, List.setIfInBounds_toArray, List.set_cons_zero, List.set_cons_succ]
            have hs := HS.out
            rw [← hB] at hs
            have c0 : w.cell? ⟨b, 0, none⟩ = some (.int .i64 nw) := (blk_cell hs 0).trans rfl
            clear hB
            refine St.ob_value (v := ?_) (w' := w) (by rfl) ?_ ⟨rfl, ?_⟩
            rotate_left
            · go_simp
              with_reducible rfl
            · rfl
          · intro w hB
            simp only [St.withD]
            refine St.ob_value (v := ?_) (w' := w) (by rfl) ?_ ⟨rfl, ?_⟩
            rotate_left
            · go_simp
              with_reducible rfl
            · rfl
          · intro w hB; rintro _ ⟨_, rfl⟩
            simp only [St.withD, List.nil_append, List.cons_append, Act.put, List.setIfInBounds_toArray, List.set_cons_zero, List.set_cons_succ]
            refine St.ob_call Try.func25 (by kernel_rfl) rfl #[.int .i64 tm, .int .i64 0, .int .i64 1099511627776] (by rfl) rfl (by (try simp only [List.map_toArray, List.map_cons, List.map_nil]); first | done | rfl | (simp only [List.length_drop, List.length_take]; rfl)) ?_
            refine (bring_any tm 0 1099511627776 (by decide) w).mono ?_
            rintro e w1 ⟨rfl, rfl⟩
            refine ⟨_, rfl, rfl, ?_⟩
            rfl
          · intro w hB; rintro _ ⟨_, rfl⟩ _ ⟨_, rfl⟩
            simp only [St.withD, List.nil_append, List.cons_append, Act.put, List.setIfInBounds_toArray, List.set_cons_zero, List.set_cons_succ]
            refine St.ob_value (v := .int .i64 z) (w' := w) (by rfl) ?_ ⟨rfl, rfl⟩
            clear hB
            obtain ⟨bb, hbb⟩ : ∃ bb, brI tm 0 1099511627776 = bb := ⟨_, rfl⟩
            have hz := HZ.out
            rw [hbb] at hz ⊢
            by_cases hm : nw < bb
            · have e : z = bb := by omega
              rw [e]
              clear hz
              go_simp
              try omega
            · have e : z = nw := by omega
              rw [e]
              clear hz
              go_simp
              try omega
          · intro w hB; rintro _ ⟨_, rfl⟩
            simp only [St.withD, List.nil_append, List.cons_append, Act.put, List.setIfInBounds_toArray, List.set_cons_zero, List.set_cons_succ]
            refine St.ob_value (v := ?_) (w' := w) (by rfl) ?_ ⟨rfl, ?_⟩
            rotate_left
            · go_simp
              with_reducible rfl
            · rfl
          · intro w hB; rintro _ ⟨_, rfl⟩
            simp only [St.withD, List.nil_append, List.cons_append, Act.put, List.setIfInBounds_toArray, List.set_cons_zero, List.set_cons_succ]
            refine St.ob_value (v := ?_) (w' := w) (by rfl) ?_ ⟨rfl, ?_⟩
            rotate_left
            · go_simp
              with_reducible rfl
            · rfl
          · intro w hB; rintro _ ⟨_, rfl⟩ _ ⟨_, rfl⟩
            simp only [St.withD, List.nil_append, List.cons_append, Act.put, List.setIfInBounds_toArray, List.set_cons_zero, List.set_cons_succ]
            have hs := HS.out
            rw [← hB] at hs
            have c1 : w.cell? ⟨b, 0, none⟩ = some (.int .i64 nw) := (blk_cell hs 0).trans rfl
            have f1 := blk_frozen hs 0
            refine St.ob_skip (w' := w.setCell ⟨b, 0, none⟩ (.int .i64 z)) (by rfl) ?_ ⟨⟨rfl, by rw [hB]⟩, rfl⟩
            clear hs hB
            go_simp
        case hst => exact ⟨St.eqT_st, St.eqT_st, St.eqT_st, St.eqT_st, St.eqT_st, St.eqT_st, St.eqT_st, St.eqT_st, St.eqT_st, St.eqT_st, St.eqT_st, trivial⟩
        case h0 => exact hwd
        case hB => exact fun w w' h e => e ▸ h
        case hC => (intro w w' h e; subst e; exact h)
        case hend =>
          intro w hB
          rintro _ rfl _ rfl _ rfl _ rfl _ rfl _ rfl _ rfl _ rfl _ rfl _ rfl _ rfl
          simp only [List.map_cons, List.map_nil, List.nil_append, List.cons_append, List.getD_cons_zero, List.getD_cons_succ, Act.put, List.setIfInBounds_toArray, List.set_cons_zero, List.set_cons_succ]
          rw [St.withE_nil]
          subst hB
          go_wp2
          go_ret
          exact FIN.out
end
end Go.Proofs.Ytfijbhacobjjgag
