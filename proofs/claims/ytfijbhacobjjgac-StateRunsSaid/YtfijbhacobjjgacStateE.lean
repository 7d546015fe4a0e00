/- A state: a dictionary too many; the last epoch. -/
import Derived.Test.YtfijbhacobjjgacStateD
namespace Go.Proofs.Ytfijbhacobjjgac
open Go.RowKit Go.Proofs.YtfijbhacobjjgacW.PrintWords Go.Proofs.YtfijbhacobjjgacW.PrintLast Go.Proofs.YtfijbhacobjjgacW.PrintMore Go.Proofs.Ytfijbhacobjjgac.Fr
set_option linter.unusedVariables false
set_option linter.unusedSimpArgs false
attribute [local go_sem] max2_int min2_int max_two min_two

open Go.Maps
theorem ch_cell {S : Nat → Prop} {w w' : World} {b i : Nat} {v : Value} (hc : Ch S w w') (hs : ¬ S b) (hb : b < w.heap.size) (h : w.cell? ⟨b, i, none⟩ = some v) : w'.cell? ⟨b, i, none⟩ = some v := by
  have e := hc.block b hb hs
  simp only [World.cell?] at h ⊢
  rw [e]
  exact h
theorem min_mem (l : List Int) (h : l ≠ []) : Lib.minOf l ∈ l := by
  have aux : ∀ (r : List Int) (a : Int), r.foldl min a = a ∨ r.foldl min a ∈ r := by
    intro r
    induction r with
    | nil => intro a; exact .inl rfl
    | cons x r ih =>
      intro a
      rcases ih (min a x) with e | e
      · simp only [List.foldl_cons, e]
        rcases (by omega : min a x = a ∨ min a x = x) with e2 | e2
        · exact .inl e2
        · exact .inr (by rw [e2]; simp)
      · exact .inr (by simp only [List.foldl_cons]; exact List.mem_cons_of_mem _ e)
  cases l with
  | nil => exact absurd rfl h
  | cons x r =>
    unfold Lib.minOf
    rcases aux (x :: r) x with e | e
    · simp only [List.headD_cons]; rw [e]; simp
    · simpa using e
theorem own_ints {w : World} {base : Nat} {v : Value} {ss : List Int} (h : w.ownsRow base 3 1 v ss.length (ss.map encZ)) (h0 : 0 < ss.length) :
    ∃ b c, v = .slice (some ⟨b, 0, none⟩) ss.length c ∧ base ≤ b ∧ b < w.heap.size ∧ ∀ j, j < ss.length → w.cell? ⟨b, 0 + j, none⟩ = some (.int .i64 (ss.getD j 0)) := by
  rcases h.2 with ⟨_, hn⟩ | ⟨b, cap, cur, rfl, hb, hcur, _⟩
  · omega
  refine ⟨b, cap, rfl, hb, blk_lt hcur, fun j hj => ?_⟩
  have hc := h.cells (g := b) rfl j (.int .i64 (ss.getD j 0)) (by simp [List.getElem?_eq_getElem hj, List.getD_eq_getElem?_getD])
  have ha : (⟨b, 0, none⟩ : Addr).add j = ⟨b, 0 + j, none⟩ := by unfold Addr.add; split <;> simp_all
  rwa [ha] at hc
theorem delete_op {P : Program} {ρ : Operand → Value} {w w1 : World} {o : Oper} {s x : Operand} {t k : TypeId} {v y v1 : Value} (ho : o.op = .call { callee := .builtin .delete, args := #[s, x], argTypes := #[t, k] }) (hs : ρ s = v) (hx : ρ x = y) (hrun : (Builtin.delete_ #[t, k] o.type #[v, y]).run P w = .ok v1 w1) :
    (execOp ρ o).run P w = .ok (.value v1) w1 := by
  unfold execOp
  rw [ho]
  simp [resolve, invoke, builtin, hs, hx, hrun]
section
variable {B : Nat} {g : Nat} {rv dv : Value} {md n : Nat} {rs ds : List ByteArray} {D : DW}
theorem keep_full (k : Int) (s : ByteArray) (w0 : World) (h : ST B w0 g rv dv md n rs ds D) (hk : 1 ≤ k) (hs : s.size ≤ 256) (hwk : (Lit.int .i64 k).wf = true) (hn : n ≤ 1000) (hh : Maps.has D (.int .i64 k) = false) (h8 : 8 ≤ Maps.size D) :
    Calls Try.prog 15 #[.pointer (some ⟨g, 0, none⟩), .int .i64 k, .string s] w0 fun e w' => e = .returned (.int .i64 0) ∧ ∃ ss : List Int, ss.Perm (intKeys D) ∧ ST B w' g rv dv md (n + 1) rs ds ((D.del (.int .i64 (Lib.minOf ss))).put (.int .i64 k) (.lit (.string s.data.toList))) ∧ Ch (fun i => i = md) w0 w' := by
  have hkey := keyOf_int_mk Try.underlying3 hwk
  have c2 : w0.cell? ⟨g, 2, none⟩ = some (.map (some md)) := (blk_cell h.box 2).trans rfl
  have hlen := h.map.len Try.underlying45 3
  have hk0 : ¬ k < 1 := by omega
  have HSZ : Aside0 (0 < (intKeys D).length ∧ (intKeys D).length ≤ 1000) := ⟨by
    obtain ⟨es, rfl⟩ := h.map.isMap
    have := h.map.size_le
    simp only [intKeys, Maps.size, List.length_map] at *
    omega⟩
  have H := Aside0.mk h
  have HC2 := Aside0.mk (And.intro c2 h.map)
  clear h
  have hl8 : ((8 : Int) ≤ (Maps.size D : Int)) = True := by simp; omega
  go_enter Try.func15, Try.ntmps15
  go_wp2_with (at_lookup; refine wpList_lookup_own_ok _ rfl _ _ 45 rfl 3 9 law3 Try.underlying45 _ (zero9 _) (.lit (.string [])) [] (plainElem_string Try.underlying9 (by decide)) md n D rfl H.out.map _ _ rfl hkey ?_; intro v ps hv; obtain ⟨t, rfl, hz, _⟩ := plainElem_string_inv Try.underlying9 hv; clear hv hz)
  refine St.steadyW (n := 12) (by kernel_rfl) ([] :: [(0, 39)] :: [(1, 40)] :: [(2, 41)] :: [] :: [(4, 43)] :: [(5, 44)] :: [(6, 45)] :: [(7, 46)] :: [(8, 47)] :: [(9, 48)] :: [(3, 42), (10, 49)] :: []) (some 39 :: some 40 :: some 41 :: some 42 :: some 43 :: some 44 :: some 45 :: some 46 :: some 47 :: some 48 :: some 49 :: none :: []) (by kernel_rfl) 11 (0 :: 0 :: 0 :: 0 :: 0 :: 0 :: 0 :: 0 :: 0 :: 0 :: 0 :: 1 :: []) (by kernel_rfl) rfl (by decide) ((St.eqT ?c7_0) :: (St.eqT ?c7_1) :: (St.eqT ?c7_2) :: (St.eqT ?c7_3) :: (St.eqT ?c7_4) :: (St.eqT ?c7_5) :: (St.eqT ?c7_6) :: (St.eqT ?c7_7) :: (fun _ v w => ∃ b, v = .func (.func 33) #[] #[.pointer (some ⟨b, 0, none⟩)] ∧ b < w.heap.size ∧ b ≠ md ∧ w.cell? ⟨b, 0, none⟩ = some (.map (some md))) :: (fun _ v w => ∃ (ss : List Int) (b c : Nat), v = .slice (some ⟨b, 0, none⟩) ss.length c ∧ ss.Perm (intKeys D) ∧ b < w.heap.size ∧ b ≠ md ∧ ∀ j, j < ss.length → w.cell? ⟨b, 0 + j, none⟩ = some (.int .i64 (ss.getD j 0))) :: (fun _ v w => ∃ ss : List Int, v = .int .i64 (Lib.minOf ss) ∧ ss.Perm (intKeys D)) :: (St.eqT (.tuple #[])) :: []) rfl (by rfl) (fun w' => Below w0.heap.size w0 w') (fun w w' => Below w.heap.size w w') (fun w w' => w.mapTurned w' md) (fun w' => ∃ ss : List Int, ss.Perm (intKeys D) ∧ w'.ownsMap Try.prog 3 EL md n (D.del (.int .i64 (Lib.minOf ss))) ∧ Ch (fun i => i = md) w0 w') (fun w w' => w = w') ?hst ?h0 ?hB ?hC ?hop ?hend
  case hop =>
    refine ⟨?_, ?_, ?_, ?_, ?_, ?_, ?_, ?_, ?_, ?_, ?_, ?_, trivial⟩
    · intro w hB
      simp only [St.withD]
      refine St.ob_value (v := ?_) (w' := w) (by rfl) ?_ ⟨Below.refl _ _, ?_⟩
      rotate_left
      · go_simp
        with_reducible rfl
      · rfl
    · intro w hB; rintro _ ⟨_, rfl⟩
      simp only [St.withD, List.nil_append, List.cons_append, Act.put, List.setIfInBounds_toArray, List.set_cons_zero, List.set_cons_succ]
      refine St.ob_value (v := ?_) (w' := w) (by rfl) ?_ ⟨Below.refl _ _, ?_⟩
      rotate_left
      · go_simp
        with_reducible rfl
      · rfl
    · intro w hB; rintro _ ⟨_, rfl⟩
      simp only [St.withD, List.nil_append, List.cons_append, Act.put, List.setIfInBounds_toArray, List.set_cons_zero, List.set_cons_succ]
      refine St.ob_value (v := ?_) (w' := w) (by rfl) ?_ ⟨Below.refl _ _, ?_⟩
      rotate_left
      · go_simp
        with_reducible rfl
      · rfl
    · intro w hB; rintro _ ⟨_, rfl⟩
      simp only [St.withD, List.nil_append, List.cons_append, Act.put, List.setIfInBounds_toArray, List.set_cons_zero, List.set_cons_succ]
      have c2 : w.cell? ⟨g, 2, none⟩ = some (.map (some md)) := pw_cell_below hB HC2.out.1
      refine St.ob_value (v := ?_) (w' := w) (by rfl) ?_ ⟨Below.refl _ _, ?_⟩
      rotate_left
      · go_simp
        with_reducible rfl
      · rfl
    · intro w hB
      simp only [St.withD]
      refine St.ob_value (v := ?_) (w' := w) (by rfl) ?_ ⟨Below.refl _ _, ?_⟩
      rotate_left
      · go_simp
        with_reducible rfl
      · rfl
    · intro w hB; rintro _ ⟨_, rfl⟩
      simp only [St.withD, List.nil_append, List.cons_append, Act.put, List.setIfInBounds_toArray, List.set_cons_zero, List.set_cons_succ]
      refine St.ob_value (v := ?_) (w' := w) (by rfl) ?_ ⟨Below.refl _ _, ?_⟩
      rotate_left
      · go_simp
        with_reducible rfl
      · rfl
    · intro w hB; rintro _ ⟨_, rfl⟩
      simp only [St.withD, List.nil_append, List.cons_append, Act.put, List.setIfInBounds_toArray, List.set_cons_zero, List.set_cons_succ]
      refine St.ob_value (v := ?_) (w' := w) (by rfl) ?_ ⟨Below.refl _ _, ?_⟩
      rotate_left
      · go_simp
        with_reducible rfl
      · rfl
    · intro w hB; rintro _ ⟨_, rfl⟩
      simp only [St.withD, List.nil_append, List.cons_append, Act.put, List.setIfInBounds_toArray, List.set_cons_zero, List.set_cons_succ]
      have c2 : w.cell? ⟨g, 2, none⟩ = some (.map (some md)) := pw_cell_below hB HC2.out.1
      refine St.ob_value (v := ?_) (w' := w) (by rfl) ?_ ⟨Below.refl _ _, ?_⟩
      rotate_left
      · go_simp
        with_reducible rfl
      · rfl
    · intro w hB; rintro _ ⟨_, rfl⟩
      simp only [St.withD, List.nil_append, List.cons_append, Act.put, List.setIfInBounds_toArray, List.set_cons_zero, List.set_cons_succ]
      refine St.ob_call Try.func29 (by kernel_rfl) rfl #[.map (some md)] (by rfl) rfl (by (try simp only [List.map_toArray, List.map_cons, List.map_nil]); first | done | rfl | (simp only [List.length_drop, List.length_take]; rfl)) ?_
      refine (keys_any (some md) w).mono ?_
      rintro e w1 ⟨rfl, rfl⟩
      refine ⟨_, rfl, below_alloc (Below.refl _ _) _, ?_⟩
      exact ⟨w.heap.size, rfl, by simp, fun e => by have := HC2.out.2.lt; have := hB.size; omega, (blk_cell (blk_new w _) 0).trans rfl⟩
    · intro w hB; rintro v8 ⟨ds8, ht8⟩
      simp only [St.withD, List.nil_append, List.cons_append, Act.put, List.setIfInBounds_toArray, List.set_cons_zero, List.set_cons_succ]
      obtain ⟨b, rfl, hb1, hb2, hb3⟩ := ht8
      refine St.ob_call Try.func28 (by kernel_rfl) rfl #[.func (.func 33) #[] #[.pointer (some ⟨b, 0, none⟩)]] (by rfl) rfl (by (try simp only [List.map_toArray, List.map_cons, List.map_nil]); first | done | rfl | (simp only [List.length_drop, List.length_take]; rfl)) ?_
      refine (collect_any b w hb1 hb3 (map_ch (S := fun _ => False) HC2.out.2 (Ch.of_below hB) (fun e => e)) hn).mono ?_
      rintro e w1 ⟨v, ss, rfl, hp, ho, hnil, hbl⟩
      refine ⟨_, rfl, hbl, ?_⟩
      obtain ⟨b2, c2, rfl, h1, h2, h3⟩ := own_ints ho (by rw [hp.length_eq]; exact HSZ.out.1)
      exact ⟨ss, b2, c2, rfl, hp, h2, fun e => by have := HC2.out.2.lt; have := hB.size; omega, h3⟩
    · intro w hB; rintro v9 ⟨ds9, ht9⟩
      simp only [St.withD, List.nil_append, List.cons_append, Act.put, List.setIfInBounds_toArray, List.set_cons_zero, List.set_cons_succ]
      obtain ⟨ss, b, c, rfl, hp, hb1, hb2, hcl⟩ := ht9
      refine St.ob_call Try.func27 (by kernel_rfl) rfl #[.slice (some ⟨b, 0, none⟩) ss.length c] (by rfl) rfl (by (try simp only [List.map_toArray, List.map_cons, List.map_nil]); first | done | rfl | (simp only [List.length_drop, List.length_take]; rfl)) ?_
      refine (Try.slices_Min_int b 0 ss.length c ss w (by rw [hp.length_eq]; exact HSZ.out.1) (Nat.le_refl _) (by rw [hp.length_eq]; have := HSZ.out.2; omega) hcl).mono ?_
      rintro e w1 ⟨rfl, rfl⟩
      refine ⟨_, rfl, Below.refl _ _, ?_⟩
      exact ⟨ss, by rw [List.take_length], hp⟩
    · intro w hB; rintro _ ⟨_, rfl⟩ v10 ⟨ds10, ht10⟩
      simp only [St.withD, List.nil_append, List.cons_append, Act.put, List.setIfInBounds_toArray, List.set_cons_zero, List.set_cons_succ]
      obtain ⟨ss, rfl, hp⟩ := ht10
      obtain ⟨w2, hrun, hm2, ht2⟩ := World.ownsMap.drop (map_ch (S := fun _ => False) HC2.out.2 (Ch.of_below hB) (fun e => e)) law3 Try.underlying45 (keyOf_int_mk Try.underlying3 (intKeys_wf HC2.out.2 Try.underlying3 _ (hp.mem_iff.1 (min_mem ss (by intro e; subst e; have := hp.length_eq; have := HSZ.out.1; simp at *; omega))))) _
      exact St.ob_value (v := .tuple #[]) (w' := w2) (by rfl) (delete_op rfl (by rfl) (by rfl) hrun) ⟨⟨ht2, ss, hp, hm2, (Ch.of_below hB).trans (ch_turned ht2)⟩, rfl⟩
  case hst => exact ⟨St.eqT_st, St.eqT_st, St.eqT_st, St.eqT_st, St.eqT_st, St.eqT_st, St.eqT_st, St.eqT_st, fun ds v w w' h hR => by (obtain ⟨b, e1, e2, e3, e4⟩ := h; rcases hR with ⟨_, hR | ⟨hR, _⟩⟩ | hR; exact ⟨b, e1, Nat.lt_of_lt_of_le e2 hR.size, e3, pw_cell_below hR e4⟩; exact ⟨b, e1, Nat.lt_of_lt_of_le e2 (ch_turned hR).size, e3, ch_cell (ch_turned hR) e3 e2 e4⟩; (subst hR; exact ⟨b, e1, e2, e3, e4⟩)), fun ds v w w' h hR => by (obtain ⟨ss, b, c, e1, e0, e2, e3, e4⟩ := h; rcases hR with ⟨_, hR | ⟨hR, _⟩⟩ | hR; exact ⟨ss, b, c, e1, e0, Nat.lt_of_lt_of_le e2 hR.size, e3, fun j hj => pw_cell_below hR (e4 j hj)⟩; exact ⟨ss, b, c, e1, e0, Nat.lt_of_lt_of_le e2 (ch_turned hR).size, e3, fun j hj => ch_cell (ch_turned hR) e3 e2 (e4 j hj)⟩; (subst hR; exact ⟨ss, b, c, e1, e0, e2, e3, e4⟩)), fun ds v w w' h hR => by exact h, St.eqT_st, trivial⟩
  case h0 => exact below_drew1 (Below.refl _ _)
  case hB => exact fun w w' h k => below_step h k
  case hC => (intro w w' h e; subst e; exact h)
  case hend =>
    intro w hB
    rintro _ rfl _ rfl _ rfl _ rfl _ rfl _ rfl _ rfl _ rfl v8 ht8 v9 ht9 v10 ht10 _ rfl
    simp only [List.map_cons, List.map_nil, List.nil_append, List.cons_append, List.getD_cons_zero, List.getD_cons_succ, Act.put, List.setIfInBounds_toArray, List.set_cons_zero, List.set_cons_succ]
    rw [St.withE_nil]
    obtain ⟨ss, hp, hm, hc⟩ := hB
    have HW := Aside0.mk (And.intro hp (And.intro hm hc))
    have c2 : w.cell? ⟨g, 2, none⟩ = some (.map (some md)) := (blk_cell (hc.blk H.out.box (fun e => H.out.nm1 e.symm)) 2).trans rfl
    clear hp hm hc ht8 ht9 ht10
    go_wp2_with (at_mapUpdate; refine wpList_mapUpdate_in _ rfl _ _ _ 45 rfl 3 9 law3 Try.underlying45 _ md n _ rfl HW.out.2.1 (by unfold maxLen; omega) _ _ _ rfl rfl hkey _ [] (plainElem_string Try.underlying9 (by unfold maxLen; omega)) ?_; intro w1 hown1 hturn1)
    go_ret
    have hc := HW.out.2.2.trans (ch_turned hturn1)
    exact ⟨rfl, _, HW.out.1, H.out.turn hc hown1, hc⟩
end
end Go.Proofs.Ytfijbhacobjjgac
