/- The contract of Add. -/
import Derived.Test.YtfcpjblogeofpabRingA
import Derived.Test.YtfcpjblogeofpabSteadyT
namespace Go.Proofs.Ytfcpjblogeofpab
open Go.RowKit Go.Proofs.YtfcpjblogeofpabW.PrintWords Go.Proofs.YtfcpjblogeofpabW.PrintLast Go.Proofs.YtfcpjblogeofpabW.PrintMore Go.Proofs.Ytfcpjblogeofpab.Fr
set_option linter.unusedVariables false
set_option linter.unusedSimpArgs false

theorem drawn_trans {w w1 w2 : World} (h : Drawn0 w w1) (k : Drawn0 w1 w2) : Drawn0 w w2 := by
  obtain ⟨⟨n, rfl⟩⟩ := h
  obtain ⟨⟨m, rfl⟩⟩ := k
  exact Drawn0.step ⟨⟨n, rfl⟩⟩ m
theorem RingAt.drawn {w w1 : World} {g gl : Nat} {r : R} (h : RingAt w g gl r) (hd : Drawn0 w w1) : RingAt w1 g gl r := by
  obtain ⟨⟨n, rfl⟩⟩ := hd
  exact h
/-- The world under a name. -/
theorem absW {P : Program} {c : Code} {Q : Exit → Act → World → Prop} {a : Act} {w : World} (F : World → Prop) (h : F w) (k : ∀ w', F w' → c.wp P Q a w') : c.wp P Q a w := k w h
def pushR (r : R) (s : ByteArray) : R := ⟨r.l.set ((r.first + r.n) % r.l.length) s, r.first, r.n + 1, r.bytes + s.size⟩
def dropR (r : R) : R := ⟨r.l, (r.first + 1) % r.l.length, r.n - 1, r.bytes - (r.l.getD r.first ByteArray.empty).size⟩
def addR (r : R) (s : ByteArray) : R := if r.n = r.l.length then pushR (dropR r) s else pushR r s
abbrev two (g gl : Nat) : Nat → Prop := fun i => i = g ∨ i = gl
set_option maxHeartbeats 1000000 in
theorem add_room (g gl : Nat) (r : R) (s : ByteArray) (w : World) (h : RingAt w g gl r) (ho : r.ok) (hs : s.size ≤ 140737488351232) (hn : r.n < r.l.length) :
    Calls Try.prog 8 #[.pointer (some ⟨g, 0, none⟩), .string s] w fun e w' => e = .returned (.tuple #[]) ∧ RingAt w' g gl (pushR r s) ∧ Ch (two g gl) w w' := by
  have c0 : w.cell? ⟨g, 0, none⟩ = some (.slice (some ⟨gl, 0, none⟩) r.l.length r.l.length) := (blk_cell h.1 0).trans rfl
  have c2 : w.cell? ⟨g, 2, none⟩ = some (.int .i64 r.n) := (blk_cell h.1 2).trans rfl
  have H2 := Aside0.mk ho.cap
  have HO := Aside0.mk (And.intro ho.pos (And.intro ho.cap ho.first))
  have HL := Aside0.mk ho.lo
  have HH := Aside0.mk ho.hi
  clear ho
  have HR := Aside0.mk h
  clear h
  obtain ⟨ix, hix⟩ : ∃ ix, ix = (r.first + (r.n : Int).toNat) % r.l.length := ⟨_, rfl⟩
  have hxl : ix < r.l.length := hix ▸ Nat.mod_lt _ HO.out.1
  have HX := Aside0.mk hix
  clear hix
  have ht : ((r.n : Int) == (r.l.length : Int)) = false := by simp; omega
  go_enter Try.func8, Try.ntmps8
  go_wp2
  go_region
  go_wp2
  refine absW (F := fun W => RingAt W g gl r ∧ Ch (two g gl) w W) ⟨HR.out, by repeat (first | exact Ch.refl _ _ | apply Ch.drew)⟩ ?_
  intro W ⟨HR1, HC1⟩
  have HC := Aside0.mk HC1
  clear HR c0 c2 HC1
  have HR := Aside0.mk HR1
  clear HR1
  refine St.steadyW (n := 13) (by kernel_rfl) ([] :: [(0, 46)] :: [(1, 47)] :: [(2, 48)] :: [] :: [] :: [(5, 51)] :: [(6, 52)] :: [(7, 53)] :: [(4, 50), (8, 54)] :: [] :: [(3, 49), (9, 55)] :: [(10, 56), (11, 57)] :: []) (some 46 :: some 47 :: some 48 :: some 49 :: some 50 :: some 51 :: some 52 :: some 53 :: some 54 :: some 55 :: some 56 :: some 57 :: none :: []) (by kernel_rfl) 12 (0 :: 0 :: 0 :: 0 :: 0 :: 0 :: 0 :: 0 :: 0 :: 0 :: 0 :: 0 :: 1 :: []) (by kernel_rfl) rfl (by decide) ((St.eqT ?c5_0) :: (St.eqT ?c5_1) :: (St.eqT ?c5_2) :: (St.eqT ?c5_3) :: (St.eqT ?c5_4) :: (St.eqT ?c5_5) :: (St.eqT ?c5_6) :: (St.eqT ?c5_7) :: (St.eqT ?c5_8) :: (St.eqT ?c5_9) :: (St.eqT ?c5_10) :: (St.eqT ?c5_11) :: (St.eqT undef) :: []) rfl (by rfl) (fun w' => Drawn0 W w') (fun w w' => Drawn0 w w') (fun _ _ => True) (fun w' => ∃ nq, w' = (W.drewN nq).setCell ⟨gl, ix, none⟩ (.string s)) (fun w w' => w = w') ?hst ?h0 ?hB ?hC ?hop ?hend
  case hop =>
    refine ⟨?_, ?_, ?_, ?_, ?_, ?_, ?_, ?_, ?_, ?_, ?_, ?_, ?_, trivial⟩
    · intro w hB
      simp only [St.withD]
      refine St.ob_value (v := ?_) (w' := w) (by rfl) ?_ ⟨Drawn0.refl _, ?_⟩
      rotate_left
      · go_simp
        with_reducible rfl
      · rfl
    · intro w hB; rintro _ ⟨_, rfl⟩
      simp only [St.withD, List.nil_append, List.cons_append, Act.put, List.setIfInBounds_toArray, List.set_cons_zero, List.set_cons_succ]
      refine St.ob_value (v := ?_) (w' := w) (by rfl) ?_ ⟨Drawn0.refl _, ?_⟩
      rotate_left
      · go_simp
        with_reducible rfl
      · rfl
    · intro w hB; rintro _ ⟨_, rfl⟩
      simp only [St.withD, List.nil_append, List.cons_append, Act.put, List.setIfInBounds_toArray, List.set_cons_zero, List.set_cons_succ]
      refine St.ob_value (v := ?_) (w' := w) (by rfl) ?_ ⟨Drawn0.refl _, ?_⟩
      rotate_left
      · go_simp
        with_reducible rfl
      · rfl
    · intro w hB; rintro _ ⟨_, rfl⟩
      simp only [St.withD, List.nil_append, List.cons_append, Act.put, List.setIfInBounds_toArray, List.set_cons_zero, List.set_cons_succ]
      have HRw := HR.out.drawn hB
      have c0 : w.cell? ⟨g, 0, none⟩ = some (.slice (some ⟨gl, 0, none⟩) r.l.length r.l.length) := (blk_cell HRw.1 0).trans rfl
      have c2 : w.cell? ⟨g, 2, none⟩ = some (.int .i64 r.n) := (blk_cell HRw.1 2).trans rfl
      clear HRw
      refine St.ob_value (v := ?_) (w' := w) (by rfl) ?_ ⟨Drawn0.refl _, ?_⟩
      rotate_left
      · go_simp
        with_reducible rfl
      · rfl
    · intro w hB
      simp only [St.withD]
      refine St.ob_value (v := ?_) (w' := w) (by rfl) ?_ ⟨Drawn0.refl _, ?_⟩
      rotate_left
      · go_simp
        with_reducible rfl
      · rfl
    · intro w hB
      simp only [St.withD]
      refine St.ob_value (v := ?_) (w' := w) (by rfl) ?_ ⟨Drawn0.refl _, ?_⟩
      rotate_left
      · go_simp
        with_reducible rfl
      · rfl
    · intro w hB; rintro _ ⟨_, rfl⟩
      simp only [St.withD, List.nil_append, List.cons_append, Act.put, List.setIfInBounds_toArray, List.set_cons_zero, List.set_cons_succ]
      refine St.ob_value (v := ?_) (w' := w) (by rfl) ?_ ⟨Drawn0.refl _, ?_⟩
      rotate_left
      · go_simp
        with_reducible rfl
      · rfl
    · intro w hB; rintro _ ⟨_, rfl⟩
      simp only [St.withD, List.nil_append, List.cons_append, Act.put, List.setIfInBounds_toArray, List.set_cons_zero, List.set_cons_succ]
      refine St.ob_value (v := ?_) (w' := w) (by rfl) ?_ ⟨Drawn0.refl _, ?_⟩
      rotate_left
      · go_simp
        with_reducible rfl
      · rfl
    · intro w hB; rintro _ ⟨_, rfl⟩
      simp only [St.withD, List.nil_append, List.cons_append, Act.put, List.setIfInBounds_toArray, List.set_cons_zero, List.set_cons_succ]
      have HRw := HR.out.drawn hB
      have c0 : w.cell? ⟨g, 0, none⟩ = some (.slice (some ⟨gl, 0, none⟩) r.l.length r.l.length) := (blk_cell HRw.1 0).trans rfl
      have c2 : w.cell? ⟨g, 2, none⟩ = some (.int .i64 r.n) := (blk_cell HRw.1 2).trans rfl
      clear HRw
      refine St.ob_value (v := ?_) (w' := w) (by rfl) ?_ ⟨Drawn0.refl _, ?_⟩
      rotate_left
      · go_simp
        with_reducible rfl
      · rfl
    · intro w hB; rintro _ ⟨_, rfl⟩ _ ⟨_, rfl⟩
      simp only [St.withD, List.nil_append, List.cons_append, Act.put, List.setIfInBounds_toArray, List.set_cons_zero, List.set_cons_succ]
      refine St.ob_call Try.func16 (by kernel_rfl) rfl #[.pointer (some ⟨g, 0, none⟩), .int .i64 r.n] (by rfl) rfl (by (try simp only [List.map_toArray, List.map_cons, List.map_nil]); first | done | rfl | (simp only [List.length_drop, List.length_take]; rfl)) ?_
      refine (at_any g gl r r.n ix HX.out _ (HR.out.drawn hB) HO.out.1 HO.out.2.1 HO.out.2.2 (by omega) (by have := H2.out; omega)).mono ?_
      rintro e w1 ⟨rfl, hd⟩
      refine ⟨_, rfl, hd, ?_⟩
      rfl
    · intro w hB
      simp only [St.withD]
      refine St.ob_value (v := ?_) (w' := w) (by rfl) ?_ ⟨Drawn0.refl _, ?_⟩
      rotate_left
      · go_simp
        with_reducible rfl
      · rfl
    · intro w hB; rintro _ ⟨_, rfl⟩ _ ⟨_, rfl⟩
      simp only [St.withD, List.nil_append, List.cons_append, Act.put, List.setIfInBounds_toArray, List.set_cons_zero, List.set_cons_succ]
      refine St.ob_value (v := .pointer (some ⟨gl, ix, none⟩)) (w' := w) (by rfl) ?_ ⟨Drawn0.refl _, ?_⟩
      · go_simp
      · rfl
    · intro w hB; rintro _ ⟨_, rfl⟩ _ ⟨_, rfl⟩
      simp only [St.withD, List.nil_append, List.cons_append, Act.put, List.setIfInBounds_toArray, List.set_cons_zero, List.set_cons_succ]
      obtain ⟨⟨nq, rfl⟩⟩ := hB
      have c0 : (W.drewN nq).cell? ⟨gl, ix, none⟩ = _ := strs_cell HR.out.2.1 ix hxl
      have f0 : (W.drewN nq).frozen? ⟨gl, ix, none⟩ = false := blk_frozen HR.out.2.1 _
      refine St.ob_skip (w' := (W.drewN nq).setCell ⟨gl, ix, none⟩ (.string s)) (by rfl) ?_ ⟨⟨trivial, nq, rfl⟩, rfl⟩
      go_simp
  case hst => exact ⟨St.eqT_st, St.eqT_st, St.eqT_st, St.eqT_st, St.eqT_st, St.eqT_st, St.eqT_st, St.eqT_st, St.eqT_st, St.eqT_st, St.eqT_st, St.eqT_st, St.eqT_st, trivial⟩
  case h0 => exact Drawn0.step (Drawn0.refl W) 1
  case hB => exact fun w w' h k => drawn_trans h k
  case hC => (intro w w' h e; subst e; exact h)
  case hend =>
    intro w hB
    rintro _ rfl _ rfl _ rfl _ rfl _ rfl _ rfl _ rfl _ rfl _ rfl _ rfl _ rfl _ rfl _ rfl
    simp only [List.map_cons, List.map_nil, List.nil_append, List.cons_append, List.getD_cons_zero, List.getD_cons_succ, Act.put, List.setIfInBounds_toArray, List.set_cons_zero, List.set_cons_succ]
    rw [St.withE_nil]
    obtain ⟨nq, rfl⟩ := hB
    have HR5 : RingAt ((W.drewN nq).setCell ⟨gl, ix, none⟩ (.string s)) g gl ⟨r.l.set ix s, r.first, r.n, r.bytes⟩ := by
      refine ⟨?_, strs_put (w := W.drewN nq) HR.out.2.1 ix s, HR.out.2.2⟩
      have := blk_far (w := W.drewN nq) HR.out.1 (p := ⟨gl, ix, none⟩) HR.out.2.2 (.string s)
      simpa [R.cells] using this
    have HC5 : Ch (two g gl) w ((W.drewN nq).setCell ⟨gl, ix, none⟩ (.string s)) := (HC.out.drewN nq).set (.inr rfl)
    clear HR HC
    generalize (W.drewN nq).setCell ⟨gl, ix, none⟩ (.string s) = V at HR5 HC5 ⊢
    have c2 : V.cell? ⟨g, 2, none⟩ = some (.int .i64 r.n) := (blk_cell HR5.1 2).trans rfl
    have c3 : V.cell? ⟨g, 3, none⟩ = some (.int .i64 r.bytes) := (blk_cell HR5.1 3).trans rfl
    have f2 := blk_frozen HR5.1 2
    have f3 := blk_frozen HR5.1 3
    have h2 := H2.out
    have hL := HL.out
    have hH := HH.out
    have HR := Aside0.mk HR5
    have HC := Aside0.mk HC5
    clear HR5 HC5
    go_wp2
    go_end0
    refine ⟨rfl, ?_, (HC.out.set (.inl rfl)).set (.inl rfl)⟩
    have e : pushR r s = ⟨r.l.set ix s, r.first, r.n + 1, r.bytes + s.size⟩ := by rw [HX.out]; simp [pushR]
    rw [e]
    refine ⟨?_, blk_far (blk_far HR.out.2.1 (Ne.symm HR.out.2.2) _) (Ne.symm HR.out.2.2) _, HR.out.2.2⟩
    refine blk_put (cs := #[.slice (some ⟨gl, 0, none⟩) r.l.length r.l.length, .int .i64 r.first, .int .i64 ((r.n + 1 : Nat) : Int), .int .i64 r.bytes]) ?_ 3 _ (by simp [R.cells])
    refine blk_put HR.out.1 2 _ (by simp [R.cells])
set_option maxHeartbeats 1000000 in
theorem add_full (g gl : Nat) (r : R) (s : ByteArray) (w : World) (h : RingAt w g gl r) (ho : r.ok) (hs : s.size ≤ 140737488351232) (hn : r.n = r.l.length) (hb0 : ((r.l.getD r.first ByteArray.empty).size : Int) ≤ r.bytes) :
    Calls Try.prog 8 #[.pointer (some ⟨g, 0, none⟩), .string s] w fun e w' => e = .returned (.tuple #[]) ∧ RingAt w' g gl (pushR (dropR r) s) ∧ Ch (two g gl) w w' := by
  have c0 : w.cell? ⟨g, 0, none⟩ = some (.slice (some ⟨gl, 0, none⟩) r.l.length r.l.length) := (blk_cell h.1 0).trans rfl
  have c1 : w.cell? ⟨g, 1, none⟩ = some (.int .i64 r.first) := (blk_cell h.1 1).trans rfl
  have c2 : w.cell? ⟨g, 2, none⟩ = some (.int .i64 r.n) := (blk_cell h.1 2).trans rfl
  have c3 : w.cell? ⟨g, 3, none⟩ = some (.int .i64 r.bytes) := (blk_cell h.1 3).trans rfl
  have f3 := blk_frozen h.1 3
  have cl := strs_cell h.2.1 r.first ho.first
  have H2 := Aside0.mk ho.cap
  have HO := Aside0.mk (And.intro ho.pos (And.intro ho.cap ho.first))
  have hL := ho.lo
  have hH := ho.hi
  have hfi := ho.first
  have hfi0 : (0 : Int) ≤ (r.first : Int) := by omega
  have hfi1 : (r.first : Int) < (r.l.length : Int) := by omega
  clear ho
  have HR := Aside0.mk h
  clear h
  have ht : ((r.n : Int) == (r.l.length : Int)) = true := by simp; omega
  have HN := Aside0.mk hn
  clear hn
  go_enter Try.func8, Try.ntmps8
  go_wp2
  go_region
  go_wp2
  obtain ⟨s0, hs0⟩ : ∃ s0, s0 = r.l.getD r.first ByteArray.empty := ⟨_, rfl⟩
  rw [← hs0] at cl hb0
  have HS0 := Aside0.mk hs0
  clear hs0
  go_region
  have HR2 : Aside0 (RingAt ((w.setCell ⟨g, 3, none⟩ (.int .i64 (r.bytes - s0.size))).drew.drew) g gl ⟨r.l, r.first, r.n, r.bytes - s0.size⟩) :=
    ⟨⟨blk_put (w := w) HR.out.1 3 _ (by simp [R.cells]), blk_far (w := w) HR.out.2.1 (Ne.symm HR.out.2.2) _, HR.out.2.2⟩⟩
  have HC2 : Aside0 (Ch (two g gl) w ((w.setCell ⟨g, 3, none⟩ (.int .i64 (r.bytes - s0.size))).drew.drew)) := ⟨((Ch.refl _ _).set (.inl rfl)).drew.drew⟩
  generalize (w.setCell ⟨g, 3, none⟩ (.int .i64 (r.bytes - s0.size))).drew.drew = V at HR2 HC2 ⊢
  clear c0 c1 c2 c3 f3 cl HR
  obtain ⟨ix1, hix1⟩ : ∃ ix, ix = (r.first + (1 : Int).toNat) % r.l.length := ⟨_, rfl⟩
  have hxl1 : ix1 < r.l.length := hix1 ▸ Nat.mod_lt _ HO.out.1
  have HX1 := Aside0.mk hix1
  clear hix1
  have c1 : V.cell? ⟨g, 1, none⟩ = some (.int .i64 r.first) := (blk_cell HR2.out.1 1).trans rfl
  have c2 : V.cell? ⟨g, 2, none⟩ = some (.int .i64 r.n) := (blk_cell HR2.out.1 2).trans rfl
  have f1 := blk_frozen HR2.out.1 1
  have f2 := blk_frozen HR2.out.1 2
  have hn1 : 1 ≤ r.n := by have := HN.out; have := HO.out.1; omega
  have hn2 : r.n ≤ 64 := by have := HN.out; have := HO.out.2.1; omega
  go_wp2_with ((go_at_call 16; refine (at_any g gl ⟨r.l, r.first, r.n, r.bytes - s0.size⟩ 1 ix1 HX1.out _ HR2.out HO.out.1 HO.out.2.1 HO.out.2.2 (by decide) (by decide)).mono ?_; rintro e w1 ⟨rfl, ⟨⟨nq, rfl⟩⟩⟩; skip))
  obtain ⟨q, hq⟩ : ∃ q : R, q = ⟨r.l, ix1, r.n - 1, r.bytes - s0.size⟩ := ⟨_, rfl⟩
  have hqd : q = dropR r := by rw [hq, HX1.out, HS0.out]; simp [dropR]
  have HQ := Aside0.mk hqd
  refine absW (F := fun W => RingAt W g gl q ∧ Ch (two g gl) w W) ⟨?_, ?_⟩ ?_
  · rw [hq]
    refine ⟨?_, blk_far (w := (V.drewN nq).setCell ⟨g, 1, none⟩ _) (blk_far (w := V.drewN nq) HR2.out.2.1 (Ne.symm HR2.out.2.2) _) (Ne.symm HR2.out.2.2) _, HR2.out.2.2⟩
    refine blk_put (w := (V.drewN nq).setCell ⟨g, 1, none⟩ (.int .i64 ix1)) (cs := #[.slice (some ⟨gl, 0, none⟩) r.l.length r.l.length, .int .i64 ix1, .int .i64 r.n, .int .i64 (r.bytes - s0.size)]) ?_ 2 _ (by simp [R.cells]; omega)
    exact blk_put (w := V.drewN nq) HR2.out.1 1 _ (by simp [R.cells])
  · repeat (first | exact HC2.out | apply Ch.drew | apply Ch.drewN | (refine Ch.set ?_ (.inl rfl)))
  intro W ⟨HRW, HCW⟩
  have e1 : q.l = r.l := by rw [hq]
  have e2 : q.first = ix1 := by rw [hq]
  have e3 : q.n = r.n - 1 := by rw [hq]
  have e4 : q.bytes = r.bytes - s0.size := by rw [hq]
  have hn : q.n < q.l.length := by rw [e1, e3]; have := HN.out; omega
  have HO' : Aside0 (0 < q.l.length ∧ q.l.length ≤ 64 ∧ q.first < q.l.length) := ⟨by rw [e1, e2]; exact ⟨HO.out.1, HO.out.2.1, hxl1⟩⟩
  have HL : Aside0 (0 ≤ q.bytes) := ⟨by rw [e4]; omega⟩
  have HH : Aside0 (q.bytes ≤ 1000000000000000000) := ⟨by rw [e4]; omega⟩
  clear e1 e2 e3 e4 hq hqd c1 c2 f1 f2 hn1 hn2 HX1 HS0 HN HR2 HC2 ht hfi hfi0 hfi1 hL hH hb0 H2 HO hxl1
  have HO := HO'
  have H2 := Aside0.mk HO.out.2.1
  clear HO'
  have HR := Aside0.mk HRW
  have HC := Aside0.mk HCW
  clear HRW HCW
  obtain ⟨ix, hix⟩ : ∃ ix, ix = (q.first + (q.n : Int).toNat) % q.l.length := ⟨_, rfl⟩
  have hxl : ix < q.l.length := hix ▸ Nat.mod_lt _ HO.out.1
  have HX := Aside0.mk hix
  clear hix
  refine St.steadyW (n := 13) (by kernel_rfl) ([] :: [(0, 46)] :: [(1, 47)] :: [(2, 48)] :: [] :: [] :: [(5, 51)] :: [(6, 52)] :: [(7, 53)] :: [(4, 50), (8, 54)] :: [] :: [(3, 49), (9, 55)] :: [(10, 56), (11, 57)] :: []) (some 46 :: some 47 :: some 48 :: some 49 :: some 50 :: some 51 :: some 52 :: some 53 :: some 54 :: some 55 :: some 56 :: some 57 :: none :: []) (by kernel_rfl) 12 (0 :: 0 :: 0 :: 0 :: 0 :: 0 :: 0 :: 0 :: 0 :: 0 :: 0 :: 0 :: 1 :: []) (by kernel_rfl) rfl (by decide) ((St.eqT ?c5_0) :: (St.eqT ?c5_1) :: (St.eqT ?c5_2) :: (St.eqT ?c5_3) :: (St.eqT ?c5_4) :: (St.eqT ?c5_5) :: (St.eqT ?c5_6) :: (St.eqT ?c5_7) :: (St.eqT ?c5_8) :: (St.eqT ?c5_9) :: (St.eqT ?c5_10) :: (St.eqT ?c5_11) :: (St.eqT undef) :: []) rfl (by rfl) (fun w' => Drawn0 W w') (fun w w' => Drawn0 w w') (fun _ _ => True) (fun w' => ∃ nq, w' = (W.drewN nq).setCell ⟨gl, ix, none⟩ (.string s)) (fun w w' => w = w') ?hst ?h0 ?hB ?hC ?hop ?hend
  case hop =>
    refine ⟨?_, ?_, ?_, ?_, ?_, ?_, ?_, ?_, ?_, ?_, ?_, ?_, ?_, trivial⟩
    · intro w hB
      simp only [St.withD]
      refine St.ob_value (v := ?_) (w' := w) (by rfl) ?_ ⟨Drawn0.refl _, ?_⟩
      rotate_left
      · go_simp
        with_reducible rfl
      · rfl
    · intro w hB; rintro _ ⟨_, rfl⟩
      simp only [St.withD, List.nil_append, List.cons_append, Act.put, List.setIfInBounds_toArray, List.set_cons_zero, List.set_cons_succ]
      refine St.ob_value (v := ?_) (w' := w) (by rfl) ?_ ⟨Drawn0.refl _, ?_⟩
      rotate_left
      · go_simp
        with_reducible rfl
      · rfl
    · intro w hB; rintro _ ⟨_, rfl⟩
      simp only [St.withD, List.nil_append, List.cons_append, Act.put, List.setIfInBounds_toArray, List.set_cons_zero, List.set_cons_succ]
      refine St.ob_value (v := ?_) (w' := w) (by rfl) ?_ ⟨Drawn0.refl _, ?_⟩
      rotate_left
      · go_simp
        with_reducible rfl
      · rfl
    · intro w hB; rintro _ ⟨_, rfl⟩
      simp only [St.withD, List.nil_append, List.cons_append, Act.put, List.setIfInBounds_toArray, List.set_cons_zero, List.set_cons_succ]
      have HRw := HR.out.drawn hB
      have c0 : w.cell? ⟨g, 0, none⟩ = some (.slice (some ⟨gl, 0, none⟩) q.l.length q.l.length) := (blk_cell HRw.1 0).trans rfl
      have c2 : w.cell? ⟨g, 2, none⟩ = some (.int .i64 q.n) := (blk_cell HRw.1 2).trans rfl
      clear HRw
      refine St.ob_value (v := ?_) (w' := w) (by rfl) ?_ ⟨Drawn0.refl _, ?_⟩
      rotate_left
      · go_simp
        with_reducible rfl
      · rfl
    · intro w hB
      simp only [St.withD]
      refine St.ob_value (v := ?_) (w' := w) (by rfl) ?_ ⟨Drawn0.refl _, ?_⟩
      rotate_left
      · go_simp
        with_reducible rfl
      · rfl
    · intro w hB
      simp only [St.withD]
      refine St.ob_value (v := ?_) (w' := w) (by rfl) ?_ ⟨Drawn0.refl _, ?_⟩
      rotate_left
      · go_simp
        with_reducible rfl
      · rfl
    · intro w hB; rintro _ ⟨_, rfl⟩
      simp only [St.withD, List.nil_append, List.cons_append, Act.put, List.setIfInBounds_toArray, List.set_cons_zero, List.set_cons_succ]
      refine St.ob_value (v := ?_) (w' := w) (by rfl) ?_ ⟨Drawn0.refl _, ?_⟩
      rotate_left
      · go_simp
        with_reducible rfl
      · rfl
    · intro w hB; rintro _ ⟨_, rfl⟩
      simp only [St.withD, List.nil_append, List.cons_append, Act.put, List.setIfInBounds_toArray, List.set_cons_zero, List.set_cons_succ]
      refine St.ob_value (v := ?_) (w' := w) (by rfl) ?_ ⟨Drawn0.refl _, ?_⟩
      rotate_left
      · go_simp
        with_reducible rfl
      · rfl
    · intro w hB; rintro _ ⟨_, rfl⟩
      simp only [St.withD, List.nil_append, List.cons_append, Act.put, List.setIfInBounds_toArray, List.set_cons_zero, List.set_cons_succ]
      have HRw := HR.out.drawn hB
      have c0 : w.cell? ⟨g, 0, none⟩ = some (.slice (some ⟨gl, 0, none⟩) q.l.length q.l.length) := (blk_cell HRw.1 0).trans rfl
      have c2 : w.cell? ⟨g, 2, none⟩ = some (.int .i64 q.n) := (blk_cell HRw.1 2).trans rfl
      clear HRw
      refine St.ob_value (v := ?_) (w' := w) (by rfl) ?_ ⟨Drawn0.refl _, ?_⟩
      rotate_left
      · go_simp
        with_reducible rfl
      · rfl
    · intro w hB; rintro _ ⟨_, rfl⟩ _ ⟨_, rfl⟩
      simp only [St.withD, List.nil_append, List.cons_append, Act.put, List.setIfInBounds_toArray, List.set_cons_zero, List.set_cons_succ]
      refine St.ob_call Try.func16 (by kernel_rfl) rfl #[.pointer (some ⟨g, 0, none⟩), .int .i64 q.n] (by rfl) rfl (by (try simp only [List.map_toArray, List.map_cons, List.map_nil]); first | done | rfl | (simp only [List.length_drop, List.length_take]; rfl)) ?_
      refine (at_any g gl q q.n ix HX.out _ (HR.out.drawn hB) HO.out.1 HO.out.2.1 HO.out.2.2 (by omega) (by have := H2.out; omega)).mono ?_
      rintro e w1 ⟨rfl, hd⟩
      refine ⟨_, rfl, hd, ?_⟩
      rfl
    · intro w hB
      simp only [St.withD]
      refine St.ob_value (v := ?_) (w' := w) (by rfl) ?_ ⟨Drawn0.refl _, ?_⟩
      rotate_left
      · go_simp
        with_reducible rfl
      · rfl
    · intro w hB; rintro _ ⟨_, rfl⟩ _ ⟨_, rfl⟩
      simp only [St.withD, List.nil_append, List.cons_append, Act.put, List.setIfInBounds_toArray, List.set_cons_zero, List.set_cons_succ]
      refine St.ob_value (v := .pointer (some ⟨gl, ix, none⟩)) (w' := w) (by rfl) ?_ ⟨Drawn0.refl _, ?_⟩
      · go_simp
      · rfl
    · intro w hB; rintro _ ⟨_, rfl⟩ _ ⟨_, rfl⟩
      simp only [St.withD, List.nil_append, List.cons_append, Act.put, List.setIfInBounds_toArray, List.set_cons_zero, List.set_cons_succ]
      obtain ⟨⟨nq, rfl⟩⟩ := hB
      have c0 : (W.drewN nq).cell? ⟨gl, ix, none⟩ = _ := strs_cell HR.out.2.1 ix hxl
      have f0 : (W.drewN nq).frozen? ⟨gl, ix, none⟩ = false := blk_frozen HR.out.2.1 _
      refine St.ob_skip (w' := (W.drewN nq).setCell ⟨gl, ix, none⟩ (.string s)) (by rfl) ?_ ⟨⟨trivial, nq, rfl⟩, rfl⟩
      go_simp
  case hst => exact ⟨St.eqT_st, St.eqT_st, St.eqT_st, St.eqT_st, St.eqT_st, St.eqT_st, St.eqT_st, St.eqT_st, St.eqT_st, St.eqT_st, St.eqT_st, St.eqT_st, St.eqT_st, trivial⟩
  case h0 => exact Drawn0.step (Drawn0.refl W) 1
  case hB => exact fun w w' h k => drawn_trans h k
  case hC => (intro w w' h e; subst e; exact h)
  case hend =>
    intro w hB
    rintro _ rfl _ rfl _ rfl _ rfl _ rfl _ rfl _ rfl _ rfl _ rfl _ rfl _ rfl _ rfl _ rfl
    simp only [List.map_cons, List.map_nil, List.nil_append, List.cons_append, List.getD_cons_zero, List.getD_cons_succ, Act.put, List.setIfInBounds_toArray, List.set_cons_zero, List.set_cons_succ]
    rw [St.withE_nil]
    obtain ⟨nq, rfl⟩ := hB
    have HR5 : RingAt ((W.drewN nq).setCell ⟨gl, ix, none⟩ (.string s)) g gl ⟨q.l.set ix s, q.first, q.n, q.bytes⟩ := by
      refine ⟨?_, strs_put (w := W.drewN nq) HR.out.2.1 ix s, HR.out.2.2⟩
      have := blk_far (w := W.drewN nq) HR.out.1 (p := ⟨gl, ix, none⟩) HR.out.2.2 (.string s)
      simpa [R.cells] using this
    have HC5 : Ch (two g gl) w ((W.drewN nq).setCell ⟨gl, ix, none⟩ (.string s)) := (HC.out.drewN nq).set (.inr rfl)
    clear HR HC
    generalize (W.drewN nq).setCell ⟨gl, ix, none⟩ (.string s) = V at HR5 HC5 ⊢
    have c2 : V.cell? ⟨g, 2, none⟩ = some (.int .i64 q.n) := (blk_cell HR5.1 2).trans rfl
    have c3 : V.cell? ⟨g, 3, none⟩ = some (.int .i64 q.bytes) := (blk_cell HR5.1 3).trans rfl
    have f2 := blk_frozen HR5.1 2
    have f3 := blk_frozen HR5.1 3
    have h2 := H2.out
    have hL := HL.out
    have hH := HH.out
    have HR := Aside0.mk HR5
    have HC := Aside0.mk HC5
    clear HR5 HC5
    go_wp2
    go_end0
    refine ⟨rfl, ?_, (HC.out.set (.inl rfl)).set (.inl rfl)⟩
    have e : pushR q s = ⟨q.l.set ix s, q.first, q.n + 1, q.bytes + s.size⟩ := by rw [HX.out]; simp [pushR]
    rw [← HQ.out, e]
    refine ⟨?_, blk_far (blk_far HR.out.2.1 (Ne.symm HR.out.2.2) _) (Ne.symm HR.out.2.2) _, HR.out.2.2⟩
    refine blk_put (cs := #[.slice (some ⟨gl, 0, none⟩) q.l.length q.l.length, .int .i64 q.first, .int .i64 ((q.n + 1 : Nat) : Int), .int .i64 q.bytes]) ?_ 3 _ (by simp [R.cells])
    refine blk_put HR.out.1 2 _ (by simp [R.cells])
/-- Add. -/
theorem add_any (g gl : Nat) (r : R) (s : ByteArray) (w : World) (h : RingAt w g gl r) (ho : r.ok) (hs : s.size ≤ 140737488351232) (hb0 : r.n = r.l.length → ((r.l.getD r.first ByteArray.empty).size : Int) ≤ r.bytes) :
    Calls Try.prog 8 #[.pointer (some ⟨g, 0, none⟩), .string s] w fun e w' => e = .returned (.tuple #[]) ∧ RingAt w' g gl (addR r s) ∧ Ch (two g gl) w w' := by
  unfold addR
  by_cases hn : r.n = r.l.length
  · rw [if_pos hn]
    exact add_full g gl r s w h ho hs hn (hb0 hn)
  · rw [if_neg hn]
    exact add_room g gl r s w h ho hs (by have := ho.n; omega)
end Go.Proofs.Ytfcpjblogeofpab
