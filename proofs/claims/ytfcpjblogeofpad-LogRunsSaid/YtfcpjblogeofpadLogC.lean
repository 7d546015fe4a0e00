/- The contracts of the document's Bytes, of slices.Clone, and of log's Old and All. -/
import Derived.Test.YtfcpjblogeofpadLogB
import Derived.Test.YtfcpjblogeofpadSteadyT
namespace Go.Proofs.Ytfcpjblogeofpad
open Go.RowKit Go.Proofs.YtfcpjblogeofpadW.PrintWords Go.Proofs.YtfcpjblogeofpadW.PrintLast Go.Proofs.YtfcpjblogeofpadW.PrintMore Go.Proofs.Ytfcpjblogeofpad.Fr
set_option linter.unusedVariables false
set_option linter.unusedSimpArgs false

def total (l : List ByteArray) : Int := ((l.map (·.size)).sum : Nat)
theorem total_snoc (l : List ByteArray) (s : ByteArray) : total (l ++ [s]) = total l + s.size := by simp [total]
theorem total_le : ∀ (l : List ByteArray), (∀ s ∈ l, s.size ≤ 140737488351232) → 0 ≤ total l ∧ total l ≤ l.length * 140737488351232
  | [], _ => by simp [total]
  | s :: l, h => by
    have h1 := h s (List.mem_cons_self ..)
    have h2 := total_le l (fun x hx => h x (List.mem_cons_of_mem _ hx))
    simp only [total, List.map_cons, List.sum_cons, List.length_cons] at h2 ⊢
    omega
theorem take_snoc (l : List ByteArray) (k : Nat) (h : k < l.length) : l.take (k + 1) = l.take k ++ [l.getD k ByteArray.empty] := by
  rw [List.take_succ_eq_append_getElem h]
  simp [List.getD_eq_getElem?_getD, h]
set_option maxHeartbeats 1000000 in
/-- The document's Bytes. -/
theorem refBytes_any (A : Option Addr) (a : List ByteArray) (ca : Nat) (w : World) (hA : RdS w A a) (hla : a.length ≤ 1000) (hca : a.length ≤ ca) (hs : ∀ s ∈ a, s.size ≤ 140737488351232) :
    Calls Try.prog 18 #[.slice A a.length ca] w fun e w' => e = .returned (.int .i64 (total a)) ∧ w = w' := by
  have HA := Aside0.mk hA
  have HS := Aside0.mk hs
  clear hA hs
  go_enter Try.func18, Try.ntmps18
  go_wp2
  go_loopg [3, 4] a.length (fun d v3 v4 wr => ∃ k : Nat, Aside0 (k + d = a.length) ∧ v3 = .int .i64 (total (a.take k)) ∧ v4 = .int .i64 k ∧ w = wr)
  case atStart => exact ⟨0, ⟨by omega⟩, rfl, rfl, rfl⟩
  case round =>
    obtain ⟨k, HK, rfl, rfl, rfl⟩ := hrel
    have ht := total_le (a.take k) (fun s hs => HS.out s (List.mem_of_mem_take hs))
    rw [List.length_take] at ht
    have ht0 : 0 ≤ total (a.take k) := ht.1
    have ht1 : total (a.take k) ≤ 140737488351232000 := by
      have := ht.2
      have h3 : min k a.length ≤ 1000 := by omega
      have h4 : ((min k a.length : Nat) : Int) * 140737488351232 ≤ 1000 * 140737488351232 := Int.mul_le_mul_of_nonneg_right (by omega) (by omega)
      omega
    clear ht
    by_cases hlt : k < a.length
    · obtain ⟨x, hx⟩ : ∃ x, a.getD k ByteArray.empty = x := ⟨_, rfl⟩
      have hxs : x.size ≤ 140737488351232 := HS.out x (by rw [← hx]; simp [List.getD_eq_getElem?_getD, hlt])
      obtain ⟨ad, rfl, hc1⟩ := HA.out k hlt
      rw [hx] at hc1
      have HT : Aside0 (total (a.take (k + 1)) = total (a.take k) + x.size) := ⟨by rw [take_snoc a k hlt, total_snoc, hx]⟩
      clear hx
      generalize total (a.take k) = tk at ht0 ht1 HT ⊢
      go_wp2
      go_roundg (gk - 1)
      case measure => have := HK.out; omega
      case rel => exact ⟨k + 1, ⟨by have := HK.out; omega⟩, by rw [HT.out], by go_num, rfl⟩
    · obtain rfl : a.length = k := by have := HK.out; omega
      go_wp2
      go_ret
      exact ⟨by rw [List.take_length]; rfl, rfl⟩

def ClonePost (l : List ByteArray) (w : World) (e : Ending) (w' : World) : Prop := ∃ v, e = .returned v ∧ w'.ownsRow w.heap.size 9 1 v (svals l).length (svals l) ∧ Below w.heap.size w w'
theorem clone_news {w : World} {ad : Addr} {l : List ByteArray} (h : RdS w (some ad) l) (o : Obj) : ∀ j u, (svals l)[j]? = some u → (w.alloc o).cell? (ad.add j) = some u := by
  intro j u hu
  by_cases hj : j < l.length
  · obtain ⟨ad', e, hc⟩ := h j hj
    cases e
    have e2 : u = .string (l.getD j ByteArray.empty) := by
      simp [svals, hj] at hu
      rw [← hu]
      simp [List.getD_eq_getElem?_getD, hj]
    rw [e2]
    exact pw_cell_below (below_alloc (Below.refl _ _) o) hc
  · simp [svals, hj] at hu
set_option maxHeartbeats 1000000 in
/-- slices.Clone at []string. -/
theorem clone_any (A : Option Addr) (l : List ByteArray) (c : Nat) (w : World) (h : RdS w A l) (hl : l.length ≤ 100000) : Calls Try.prog 21 #[.slice A l.length c] w (ClonePost l w) := by
  cases A with
  | none =>
    have h0 : l = [] := by
      cases l with
      | nil => rfl
      | cons x l => obtain ⟨ad, e, _⟩ := h 0 (by simp); cases e
    subst h0
    have hnil := fun W => Lib.run_eql_slice_nil (P := Try.prog) W 30 9 none 0 c 0 0 Try.underlying30
    clear h
    go_enter Try.func21, Try.ntmps21
    go_wp2
    go_ret
    exact ⟨_, rfl, own_nil _ _ _ _, Below.refl _ _⟩
  | some ad =>
    have hnil := fun W => Lib.run_eql_slice_nil (P := Try.prog) W 30 9 (some ad) l.length c 0 0 Try.underlying30
    obtain ⟨i0, hi, hz0, hz1, hz2⟩ := info_parts info9
    have H := Aside0.mk h
    clear h
    go_enter Try.func21, Try.ntmps21
    go_wp2_with ((with_reducible refine gate_dst (N := 7) rfl ?_); refine wpList_append_own_at (w.alloc (.cells #[] 9)) rfl (.tmp 5) (.tmp 6) 30 rfl w.heap.size 9 i0 (.string ByteArray.empty) 1 16 Try.underlying30 hi hz0 hz1 hz2 (by rfl) (by decide) (.slice (some ⟨w.heap.size, 0, none⟩) 0 0) 0 [] rfl ⟨rfl, .inr ⟨w.heap.size, 0, #[], rfl, Nat.le_refl _, blk_new w _, Nat.le_refl _, Nat.zero_le _, rfl, rfl⟩⟩ ad l.length c (svals l) rfl (by rw [svals_length, Nat.mul_one]) (clone_news H.out _) (by intro u hu; obtain ⟨x, _, rfl⟩ := List.mem_map.1 hu; rfl) (by simp only [maxLen]; omega) (by omega) (by simp) ?_; intro v1 w1 hown hg _ _; have HW := Aside0.mk (And.intro hown hg); clear hown hg)
    go_ret
    refine ⟨v1, rfl, ?_, (below_alloc (Below.refl _ _) _).grown HW.out.2 (by simp) (fun k e => by cases e; exact Nat.le_refl _)⟩
    have := HW.out.1
    rw [List.nil_append, Nat.zero_add] at this
    rw [svals_length]
    exact this

theorem all_any (B g : Nat) (v : Value) (l : List ByteArray) (base : Nat) (bytes : Int) (w : World) (h : LogAt B w g v l base bytes) (hl : l.length ≤ 100000) : Calls Try.prog 20 #[.pointer (some ⟨g, 0, none⟩)] w (ClonePost l w) := by
  obtain ⟨A, c, rfl, hc, hrd⟩ := h.slice
  have c0 : w.cell? ⟨g, 0, none⟩ = some (.slice A l.length c) := (blk_cell h.box 0).trans rfl
  have H := Aside0.mk hrd
  clear h hrd
  go_enter Try.func20, Try.ntmps20
  go_wp2_with fail
  refine (clone_any A l c _ H.out hl).mono ?_
  rintro e w1 ⟨v, rfl, ho, hb⟩
  have HP := Aside0.mk (And.intro ho hb)
  clear ho hb
  go_wp2
  go_ret
  exact ⟨v, rfl, HP.out.1, HP.out.2⟩
theorem all_none (w : World) : Calls Try.prog 20 #[.pointer none] w fun e w' => e = .returned (.slice none 0 0) ∧ w = w' := by
  go_enter Try.func20, Try.ntmps20
  go_wp2
  go_ret
  exact ⟨rfl, rfl⟩
theorem old_none (w : World) : Calls Try.prog 12 #[.pointer none] w fun e w' => e = .returned (.slice none 0 0) ∧ w = w' := by
  go_enter Try.func12, Try.ntmps12
  go_wp2
  go_ret
  exact ⟨rfl, rfl⟩
theorem clone_at (A : Option Addr) (l : List ByteArray) (m c : Nat) (hm : l.length = m) (w : World) (h : RdS w A l) (hl : l.length ≤ 100000) : Calls Try.prog 21 #[.slice A m c] w (ClonePost l w) := by
  subst hm
  exact clone_any A l c w h hl
set_option maxHeartbeats 1000000 in
theorem old_any (B g : Nat) (v : Value) (l : List ByteArray) (base : Nat) (bytes : Int) (w0 : World) (h : LogAt B w0 g v l base bytes) (hl : l.length ≤ 100000) (hbase : base ≤ l.length) : Calls Try.prog 12 #[.pointer (some ⟨g, 0, none⟩)] w0 (ClonePost (l.take base) w0) := by
  obtain ⟨A, c, rfl, hc, hrd⟩ := h.slice
  have htl : (l.take base).length = base := by rw [List.length_take]; omega
  have hbc : base ≤ c := by omega
  have HT := Aside0.mk (And.intro htl (hrd.take base))
  have H := Aside0.mk h
  clear h hrd htl
  go_enter Try.func12, Try.ntmps12
  go_wp2
  refine St.steadyR (n := 11) (by kernel_rfl) ([] :: [(0, 5)] :: [(1, 6)] :: [(2, 7)] :: [] :: [(4, 9)] :: [(5, 10)] :: [(6, 11)] :: [(3, 8), (7, 12)] :: [(8, 13)] :: [(9, 14)] :: []) (some 5 :: some 6 :: some 7 :: some 8 :: some 9 :: some 10 :: some 11 :: some 12 :: some 13 :: some 14 :: some 2 :: []) (by kernel_rfl) ((St.eqT ?c3_0) :: (St.eqT ?c3_1) :: (St.eqT ?c3_2) :: (St.eqT ?c3_3) :: (St.eqT ?c3_4) :: (St.eqT ?c3_5) :: (St.eqT ?c3_6) :: (St.eqT ?c3_7) :: (St.eqT ?c3_8) :: (fun _ v w => w.ownsRow w0.heap.size 9 1 v (svals (l.take base)).length (svals (l.take base))) :: (fun ds v w => ds.getD 0 undef = v) :: []) rfl (by rfl) (fun w' => Below w0.heap.size w0 w') (fun w w' => Below w.heap.size w w') ?hst ?h0 ?hB ?hop ?hend
  case hop =>
    refine ⟨?_, ?_, ?_, ?_, ?_, ?_, ?_, ?_, ?_, ?_, ?_, trivial⟩
    · intro w hB
      simp only [St.withD]
      refine St.ob_value (v := ?_) (w' := w) (by rfl) ?_ ⟨Below.refl _ _, ?_⟩
      rotate_left
      · go_simp
        with_reducible rfl
      · rfl
    · intro w hB; rintro _ ⟨_, rfl⟩
      simp only [St.withD, List.nil_append, List.cons_append, Act.put, List.setIfInBounds_toArray, List.set_cons_zero, List.set_cons_succ]
      refine St.ob_value (v := ?_) (w' := w) (by rfl) ?_ ⟨Below.refl _ _, ?_⟩
      rotate_left
      · go_simp
        with_reducible rfl
      · rfl
    · intro w hB; rintro _ ⟨_, rfl⟩
      simp only [St.withD, List.nil_append, List.cons_append, Act.put, List.setIfInBounds_toArray, List.set_cons_zero, List.set_cons_succ]
      refine St.ob_value (v := ?_) (w' := w) (by rfl) ?_ ⟨Below.refl _ _, ?_⟩
      rotate_left
      · go_simp
        with_reducible rfl
      · rfl
    · intro w hB; rintro _ ⟨_, rfl⟩
      simp only [St.withD, List.nil_append, List.cons_append, Act.put, List.setIfInBounds_toArray, List.set_cons_zero, List.set_cons_succ]
      have HRw := H.out.below hB
      have c0 : w.cell? ⟨g, 0, none⟩ = some (.slice A l.length c) := (blk_cell HRw.box 0).trans rfl
      have c1 : w.cell? ⟨g, 1, none⟩ = some (.int .i64 base) := (blk_cell HRw.box 1).trans rfl
      clear HRw
      refine St.ob_value (v := ?_) (w' := w) (by rfl) ?_ ⟨Below.refl _ _, ?_⟩
      rotate_left
      · go_simp
        with_reducible rfl
      · rfl
    · intro w hB
      simp only [St.withD]
      refine St.ob_value (v := ?_) (w' := w) (by rfl) ?_ ⟨Below.refl _ _, ?_⟩
      rotate_left
      · go_simp
        with_reducible rfl
      · rfl
    · intro w hB; rintro _ ⟨_, rfl⟩
      simp only [St.withD, List.nil_append, List.cons_append, Act.put, List.setIfInBounds_toArray, List.set_cons_zero, List.set_cons_succ]
      refine St.ob_value (v := ?_) (w' := w) (by rfl) ?_ ⟨Below.refl _ _, ?_⟩
      rotate_left
      · go_simp
        with_reducible rfl
      · rfl
    · intro w hB; rintro _ ⟨_, rfl⟩
      simp only [St.withD, List.nil_append, List.cons_append, Act.put, List.setIfInBounds_toArray, List.set_cons_zero, List.set_cons_succ]
      refine St.ob_value (v := ?_) (w' := w) (by rfl) ?_ ⟨Below.refl _ _, ?_⟩
      rotate_left
      · go_simp
        with_reducible rfl
      · rfl
    · intro w hB; rintro _ ⟨_, rfl⟩
      simp only [St.withD, List.nil_append, List.cons_append, Act.put, List.setIfInBounds_toArray, List.set_cons_zero, List.set_cons_succ]
      have HRw := H.out.below hB
      have c0 : w.cell? ⟨g, 0, none⟩ = some (.slice A l.length c) := (blk_cell HRw.box 0).trans rfl
      have c1 : w.cell? ⟨g, 1, none⟩ = some (.int .i64 base) := (blk_cell HRw.box 1).trans rfl
      clear HRw
      refine St.ob_value (v := ?_) (w' := w) (by rfl) ?_ ⟨Below.refl _ _, ?_⟩
      rotate_left
      · go_simp
        with_reducible rfl
      · rfl
    · intro w hB; rintro _ ⟨_, rfl⟩ _ ⟨_, rfl⟩
      simp only [St.withD, List.nil_append, List.cons_append, Act.put, List.setIfInBounds_toArray, List.set_cons_zero, List.set_cons_succ]
      refine St.ob_value (v := .slice A base c) (w' := w) (by rfl) ?_ ⟨Below.refl _ _, ?_⟩
      · go_simp
      · rfl
    · intro w hB; rintro _ ⟨_, rfl⟩
      simp only [St.withD, List.nil_append, List.cons_append, Act.put, List.setIfInBounds_toArray, List.set_cons_zero, List.set_cons_succ]
      refine St.ob_call Try.func21 (by kernel_rfl) rfl #[.slice A base c] (by rfl) rfl (by (try simp only [List.map_toArray, List.map_cons, List.map_nil]); first | done | rfl | (simp only [List.length_drop, List.length_take]; rfl)) ?_
      refine (clone_at A (l.take base) base c HT.out.1 w (HT.out.2.below hB) (by rw [HT.out.1]; omega)).mono ?_
      rintro e w1 ⟨v, rfl, ho, hb⟩
      refine ⟨_, rfl, hb, ?_⟩
      exact own_less ho hB.size
    · intro w hB; rintro v9 ⟨ds9, ht9⟩
      simp only [St.withD, List.nil_append, List.cons_append, Act.put, List.setIfInBounds_toArray, List.set_cons_zero, List.set_cons_succ]
      refine St.ob_value (v := v9) (w' := w) (by rfl) ?_ ⟨Below.refl _ _, rfl⟩
      go_simp
  case hst => exact ⟨St.eqT_st, St.eqT_st, St.eqT_st, St.eqT_st, St.eqT_st, St.eqT_st, St.eqT_st, St.eqT_st, St.eqT_st, fun ds v w w' h hR => by exact pw_own_below h hR, fun _ _ _ _ h _ => h, trivial⟩
  case h0 => exact below_drew1 (Below.refl _ _)
  case hB => exact fun w w' h k => below_step h k
  case hend =>
    intro w hB
    rintro _ rfl _ rfl _ rfl _ rfl _ rfl _ rfl _ rfl _ rfl _ rfl v9 ht9 v10 ht10
    simp only [List.map_cons, List.map_nil, List.nil_append, List.cons_append, List.getD_cons_zero, List.getD_cons_succ, Act.put, List.setIfInBounds_toArray, List.set_cons_zero, List.set_cons_succ]
    rw [St.withE_nil]
    obtain rfl : v9 = v10 := ht10
    have HO := Aside0.mk (And.intro ht9 hB)
    clear ht9 hB
    go_wp2
    go_ret
    exact ⟨_, rfl, HO.out.1, HO.out.2⟩
end Go.Proofs.Ytfcpjblogeofpad
