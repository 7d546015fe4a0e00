/- The contracts of All and Clear. -/
import Derived.Test.YtfcpjblogeofpabRingB
import Derived.Lib.SliceRun
namespace Go.Proofs.Ytfcpjblogeofpab
open Go.RowKit Go.Proofs.YtfcpjblogeofpabW.PrintWords Go.Proofs.YtfcpjblogeofpabW.PrintLast Go.Proofs.YtfcpjblogeofpabW.PrintMore Go.Proofs.Ytfcpjblogeofpab.Fr
set_option linter.unusedVariables false
set_option linter.unusedSimpArgs false

def R.recs (r : R) (k : Nat) : List ByteArray := (List.range k).map fun i => r.l.getD ((r.first + i) % r.l.length) ByteArray.empty
theorem recs_succ (r : R) (k : Nat) : r.recs (k + 1) = r.recs k ++ [r.l.getD ((r.first + k) % r.l.length) ByteArray.empty] := by simp [R.recs, List.range_succ]
theorem recs_length (r : R) (k : Nat) : (r.recs k).length = k := by simp [R.recs]
def AllPost (r : R) (w : World) (e : Ending) (w' : World) : Prop := ∃ v, e = .returned v ∧ w'.ownsRow w.heap.size 9 1 v (svals (r.recs r.n)).length (svals (r.recs r.n)) ∧ Below w.heap.size w w'
set_option maxHeartbeats 1000000 in
theorem all_any (g gl : Nat) (r : R) (w0 : World) (h : RingAt w0 g gl r) (ho : r.ok) :
    Calls Try.prog 14 #[.pointer (some ⟨g, 0, none⟩)] w0 (AllPost r w0) := by
  have HP := Aside0.mk (And.intro ho.pos (And.intro ho.cap ho.first))
  have HN := Aside0.mk ho.n
  have HB := Aside0.mk (Below.refl w0.heap.size w0)
  have HR := Aside0.mk h
  clear h ho
  go_enter Try.func14, Try.ntmps14
  go_wp2_with ((go_at_call 10; refine (len_any g gl r _ HR.out).mono ?_; rintro e w1 ⟨rfl, rfl⟩; skip))
  go_loopg [3, 7] r.n (fun d v3 v7 wr => ∃ k : Nat, Aside0 (k + d = r.n) ∧ v7 = .int .i64 k ∧ Aside0 (wr.ownsRow w0.heap.size 9 1 v3 (svals (r.recs k)).length (svals (r.recs k))) ∧ Aside0 (Below w0.heap.size w0 wr))
  case atStart => exact ⟨0, ⟨by omega⟩, rfl, ⟨own_nil _ _ _ _⟩, HB⟩
  case round =>
    clear HB
    obtain ⟨k, HK, rfl, HO, HB⟩ := hrel
    by_cases hlt : k < r.n
    · obtain ⟨ix, hix⟩ : ∃ ix, ix = (r.first + (k : Int).toNat) % r.l.length := ⟨_, rfl⟩
      have hxl : ix < r.l.length := hix ▸ Nat.mod_lt _ HP.out.1
      obtain ⟨x, hx⟩ : ∃ x, r.l.getD ix ByteArray.empty = x := ⟨_, rfl⟩
      obtain ⟨out, hout⟩ : ∃ out, r.recs k = out := ⟨_, rfl⟩
      have hlo : out.length = k := by rw [← hout, recs_length]
      have hnext : r.recs (k + 1) = out ++ [x] := by rw [recs_succ, hout, ← hx, hix, Int.toNat_natCast]
      rw [hout] at HO
      have HX := Aside0.mk hix
      have HXV := Aside0.mk hx
      have HLO := Aside0.mk hlo
      have HNX := Aside0.mk hnext
      have HK2 : Aside0 (k < 64) := ⟨by have := HP.out.2.1; have := HN.out; omega⟩
      clear hix hx hout hlo hnext
      generalize u3 = v3 at HO ⊢
      go_wp2
      refine St.steadyW (n := 13) (by kernel_rfl) ([] :: [] :: [(1, 11)] :: [(2, 12)] :: [(3, 13)] :: [] :: [] :: [(5, 15), (6, 16)] :: [(4, 14), (7, 17)] :: [(8, 18)] :: [(9, 19)] :: [(0, 10), (10, 20)] :: [(11, 21)] :: []) (some 10 :: some 11 :: some 12 :: some 13 :: some 14 :: some 15 :: some 16 :: some 17 :: some 18 :: some 19 :: some 20 :: some 21 :: some 3 :: []) (by kernel_rfl) 11 (0 :: 0 :: 0 :: 0 :: 0 :: 0 :: 0 :: 0 :: 0 :: 0 :: 0 :: 1 :: 2 :: []) (by kernel_rfl) rfl (by decide) ((St.eqT ?c5_0) :: (St.eqT ?c5_1) :: (St.eqT ?c5_2) :: (St.eqT ?c5_3) :: (St.eqT ?c5_4) :: (St.eqT ?c5_5) :: (St.eqT ?c5_6) :: (St.eqT ?c5_7) :: (St.eqT ?c5_8) :: (St.eqT ?c5_9) :: (fun _ v w => ∃ k : Nat, v = .slice (some ⟨k, 0, none⟩) 1 1 ∧ some k ≠ v3.ownBlock ∧ w.heap[k]? = some (.cells #[.string x] 9 (0, 0))) :: (fun _ v w => w.ownsRow w0.heap.size 9 1 v (svals (out ++ [x])).length (svals (out ++ [x]))) :: (fun ds v w => ds.getD 0 undef = v) :: []) rfl (by rfl) (fun w' => Below w0.heap.size w0 w' ∧ w'.ownsRow w0.heap.size 9 1 v3 (svals out).length (svals out)) (fun w w' => Below w.heap.size w w') (fun w w' => w.grownBy w' v3.ownBlock) (fun w' => Below w0.heap.size w0 w') (fun w w' => w = w') ?hst ?h0 ?hB ?hC ?hop ?hend
      case hop =>
        refine ⟨?_, ?_, ?_, ?_, ?_, ?_, ?_, ?_, ?_, ?_, ?_, ?_, ?_, trivial⟩
        · intro w hB
          simp only [St.withD]
          refine St.ob_value (v := ?_) (w' := w) (by rfl) ?_ ⟨Below.refl _ _, ?_⟩
          rotate_left
          · go_simp
            with_reducible rfl
          · rfl
        · intro w hB
          simp only [St.withD]
          refine St.ob_value (v := ?_) (w' := w) (by rfl) ?_ ⟨Below.refl _ _, ?_⟩
          rotate_left
          · go_simp
            with_reducible rfl
          · rfl
        · intro w hB; rintro _ ⟨_, rfl⟩
          simp only [St.withD, List.nil_append, List.cons_append, Act.put, List.setIfInBounds_toArray, List.set_cons_zero, List.set_cons_succ]
          refine St.ob_value (v := ?_) (w' := w) (by rfl) ?_ ⟨Below.refl _ _, ?_⟩
          rotate_left
          · go_simp
            with_reducible rfl
          · rfl
        · intro w hB; rintro _ ⟨_, rfl⟩
          simp only [St.withD, List.nil_append, List.cons_append, Act.put, List.setIfInBounds_toArray, List.set_cons_zero, List.set_cons_succ]
          refine St.ob_value (v := ?_) (w' := w) (by rfl) ?_ ⟨Below.refl _ _, ?_⟩
          rotate_left
          · go_simp
            with_reducible rfl
          · rfl
        · intro w hB; rintro _ ⟨_, rfl⟩
          simp only [St.withD, List.nil_append, List.cons_append, Act.put, List.setIfInBounds_toArray, List.set_cons_zero, List.set_cons_succ]
          have HRw := HR.out.below hB.1
          have c0 : w.cell? ⟨g, 0, none⟩ = some (.slice (some ⟨gl, 0, none⟩) r.l.length r.l.length) := (blk_cell HRw.1 0).trans rfl
          clear HRw
          refine St.ob_value (v := ?_) (w' := w) (by rfl) ?_ ⟨Below.refl _ _, ?_⟩
          rotate_left
          · go_simp
            with_reducible rfl
          · rfl
        · intro w hB
          simp only [St.withD]
          refine St.ob_value (v := ?_) (w' := w) (by rfl) ?_ ⟨Below.refl _ _, ?_⟩
          rotate_left
          · go_simp
            with_reducible rfl
          · rfl
        · intro w hB
          simp only [St.withD]
          refine St.ob_value (v := ?_) (w' := w) (by rfl) ?_ ⟨Below.refl _ _, ?_⟩
          rotate_left
          · go_simp
            with_reducible rfl
          · rfl
        · intro w hB; rintro _ ⟨_, rfl⟩ _ ⟨_, rfl⟩
          simp only [St.withD, List.nil_append, List.cons_append, Act.put, List.setIfInBounds_toArray, List.set_cons_zero, List.set_cons_succ]
          refine St.ob_call Try.func16 (by kernel_rfl) rfl #[.pointer (some ⟨g, 0, none⟩), .int .i64 k] (by rfl) rfl (by (try simp only [List.map_toArray, List.map_cons, List.map_nil]); first | done | rfl | (simp only [List.length_drop, List.length_take]; rfl)) ?_
          refine (at_any g gl r k ix HX.out _ (HR.out.below hB.1) HP.out.1 HP.out.2.1 HP.out.2.2 (by omega) (by have := HK2.out; omega)).mono ?_
          rintro e w1 ⟨rfl, hd⟩
          refine ⟨_, rfl, hd.below, ?_⟩
          rfl
        · intro w hB; rintro _ ⟨_, rfl⟩ _ ⟨_, rfl⟩
          simp only [St.withD, List.nil_append, List.cons_append, Act.put, List.setIfInBounds_toArray, List.set_cons_zero, List.set_cons_succ]
          refine St.ob_value (v := ?_) (w' := w) (by rfl) ?_ ⟨Below.refl _ _, ?_⟩
          rotate_left
          · go_simp
            with_reducible rfl
          · rfl
        · intro w hB; rintro _ ⟨_, rfl⟩
          simp only [St.withD, List.nil_append, List.cons_append, Act.put, List.setIfInBounds_toArray, List.set_cons_zero, List.set_cons_succ]
          have HRw := HR.out.below hB.1
          have c0 := strs_cell HRw.2.1 ix hxl
          rw [HXV.out] at c0
          refine St.ob_value (v := .string x) (w' := w) (by rfl) ?_ ⟨Below.refl _ _, ?_⟩
          · go_simp
          · rfl
        · intro w hB; rintro _ ⟨_, rfl⟩
          simp only [St.withD, List.nil_append, List.cons_append, Act.put, List.setIfInBounds_toArray, List.set_cons_zero, List.set_cons_succ]
          refine St.ob_value (v := .slice (some ⟨w.heap.size, 0, none⟩) 1 1) (w' := w.alloc (.cells #[.string x] 9 (0, 0))) (by rfl) (by go_simp) ⟨below_alloc (Below.refl _ _) _, _, rfl, fun e => Nat.lt_irrefl _ (own_lt hB.2 _ e.symm), blk_new w _⟩
        · intro w hB; rintro _ ⟨_, rfl⟩ v10 ⟨ds10, ht10⟩
          simp only [St.withD, List.nil_append, List.cons_append, Act.put, List.setIfInBounds_toArray, List.set_cons_zero, List.set_cons_succ]
          obtain ⟨k10, rfl, hne, hk10⟩ := ht10
          obtain ⟨v1, w1, hrun, hown, hgr, _⟩ := ap_one (P := Try.prog) (t := 22) (ty := 22) Try.underlying22 info9 (by rfl) (by decide) hB.2 hk10 (by rfl) hB.1.size (by rw [svals_length]; have := HK2.out; have := HLO.out; omega)
          exact St.ob_value (v := v1) (w' := w1) (by rfl) (append_op rfl rfl rfl hrun) ⟨⟨hgr, below_own hB.1 hB.2 hgr hB.1.size⟩, by rw [← svals_snoc]; exact hown⟩
        · intro w hB; rintro v11 ⟨ds11, ht11⟩
          simp only [St.withD, List.nil_append, List.cons_append, Act.put, List.setIfInBounds_toArray, List.set_cons_zero, List.set_cons_succ]
          refine St.ob_value (v := v11) (w' := w) (by rfl) ?_ ⟨rfl, rfl⟩
          go_simp
      case hst => exact ⟨St.eqT_st, St.eqT_st, St.eqT_st, St.eqT_st, St.eqT_st, St.eqT_st, St.eqT_st, St.eqT_st, St.eqT_st, St.eqT_st, fun ds v w w' h hR => by (obtain ⟨k, e, hne, hk⟩ := h; rcases hR with ⟨_, hb | ⟨hg, _⟩⟩ | hw; exact ⟨k, e, hne, blk_below hk hb⟩; exact ⟨k, e, hne, blk_grown hk hg hne⟩; (subst hw; exact ⟨k, e, hne, hk⟩)), fun ds v w w' h hR => by (rcases hR with ⟨hk, _⟩ | hw; exact absurd hk (by decide); (subst hw; exact h)), fun _ _ _ _ h _ => h, trivial⟩
      case h0 => exact ⟨below_drew1 HB.out, HO.out⟩
      case hB => exact fun w w' h k => ⟨below_step h.1 k, pw_own_below h.2 k⟩
      case hC => (intro w w' h e; subst e; exact h)
      case hend =>
        intro w hB
        rintro _ rfl _ rfl _ rfl _ rfl _ rfl _ rfl _ rfl _ rfl _ rfl _ rfl v10 ht10 v11 ht11 v12 ht12
        simp only [List.map_cons, List.map_nil, List.nil_append, List.cons_append, List.getD_cons_zero, List.getD_cons_succ, Act.put, List.setIfInBounds_toArray, List.set_cons_zero, List.set_cons_succ]
        rw [St.withE_nil]
        obtain rfl : v11 = v12 := ht12
        have HB := Aside0.mk hB
        have HO := Aside0.mk ht11
        rw [← HNX.out] at HO
        clear hB ht11 ht10
        have hk64 := HK2.out
        go_wp2
        go_roundg (gk - 1)
        case measure => have := HK.out; omega
        case rel => exact ⟨k + 1, ⟨by have := HK.out; omega⟩, by go_num, HO, HB⟩
    · obtain rfl : r.n = k := by have := HK.out; omega
      go_wp2
      go_ret
      exact ⟨_, rfl, HO.out, HB.out⟩
theorem all_none (w0 : World) : Calls Try.prog 14 #[.pointer none] w0 fun e w' => e = .returned (.slice none 0 0) ∧ w0 = w' := by
  go_enter Try.func14, Try.ntmps14
  go_wp2_with ((go_at_call 10; refine (len_none _).mono ?_; rintro e w1 ⟨rfl, rfl⟩; skip))
  go_loopg [3, 7] 0 (fun d v3 v7 wr => v3 = .slice none 0 0 ∧ v7 = .int .i64 0 ∧ w0 = wr)
  case atStart => exact ⟨rfl, rfl, rfl⟩
  case round =>
    obtain ⟨rfl, rfl, rfl⟩ := hrel
    go_wp2
    go_ret
    exact ⟨rfl, rfl⟩
def clearR (r : R) : R := ⟨List.replicate r.l.length ByteArray.empty, 0, 0, 0⟩
theorem clear_world (gl n : Nat) (W : World) (l : List ByteArray) (h : W.heap[gl]? = some (.cells (strs l) 9 (0, 0))) : ∀ (d k : Nat), k + d = l.length →
    (W.setCells gl k (List.replicate d (.string ByteArray.empty))).heap[gl]? = some (.cells (strs (l.take k ++ List.replicate d ByteArray.empty)) 9 (0, 0)) := by
  intro d
  induction d generalizing W l with
  | zero =>
    intro k hk
    simp only [List.replicate_zero, World.setCells, List.append_nil]
    rw [List.take_of_length_le (by omega)]
    exact h
  | succ d ih =>
    intro k hk
    simp only [List.replicate_succ, World.setCells]
    rw [ih (W.setCell ⟨gl, k, none⟩ (.string ByteArray.empty)) (l.set k ByteArray.empty) (strs_put h k ByteArray.empty) (k + 1) (by simp; omega)]
    congr 3
    rw [List.take_add_one, List.take_set_of_le (Nat.le_refl _)]
    simp [show k < l.length by omega]
theorem clear_ch (S : Nat → Prop) (gl : Nat) (hg : S gl) : ∀ (vs : List Value) (o : Nat) (W W0 : World), Ch S W0 W → Ch S W0 (W.setCells gl o vs)
  | [], _, _, _, h => h
  | v :: r, o, W, W0, h => clear_ch S gl hg r (o + 1) _ W0 (h.set hg)
theorem zero9 : ∀ w, (zeroValue 9).run Try.prog w = .ok (.string ByteArray.empty) w := fun w => by rfl
theorem clear_run (gl n ty : Nat) (hn : 0 < n) (W : World) (l : List ByteArray) (hl : l.length = n) (h : W.heap[gl]? = some (.cells (strs l) 9 (0, 0))) :
    (Builtin.clear_ #[22] ty #[.slice (some ⟨gl, 0, none⟩) n n]).run Try.prog W = .ok (.tuple #[]) (W.setCells gl 0 (List.replicate n (.string ByteArray.empty))) :=
  Lib.run_clear_slice W 22 9 ty (.string ByteArray.empty) Try.underlying22 zero9 rfl rfl gl 0 n n hn (fun j hj => by rw [Nat.zero_add, strs_cell h j (by omega)]; rfl) (fun j hj => blk_frozen h _)
theorem clear_any (g gl : Nat) (r : R) (w : World) (h : RingAt w g gl r) (h0 : 0 < r.l.length) :
    Calls Try.prog 15 #[.pointer (some ⟨g, 0, none⟩)] w fun e w' => e = .returned (.tuple #[]) ∧ RingAt w' g gl (clearR r) ∧ Ch (two g gl) w w' := by
  have c0 : w.cell? ⟨g, 0, none⟩ = some (.slice (some ⟨gl, 0, none⟩) r.l.length r.l.length) := (blk_cell h.1 0).trans rfl
  have HH := Aside0.mk h
  have HP := Aside0.mk h0
  clear h h0
  obtain ⟨n, hn⟩ : ∃ n, n = r.l.length := ⟨_, rfl⟩
  rw [← hn] at c0
  have HN := Aside0.mk hn
  clear hn
  go_enter Try.func15, Try.ntmps15
  go_wp2
  rw [clear_run gl n _ (HN.out ▸ HP.out) w r.l HN.out.symm HH.out.2.1]
  have hgl := clear_world gl n w r.l HH.out.2.1 n 0 (by have := HN.out; omega)
  have hch : Ch (fun i => i = gl) w (w.setCells gl 0 (List.replicate n (.string ByteArray.empty))) := clear_ch (fun i => i = gl) gl rfl _ _ _ _ (Ch.refl _ _)
  have hg := hch.blk HH.out.1 HH.out.2.2
  generalize w.setCells gl 0 (List.replicate n (.string ByteArray.empty)) = V at hgl hch hg ⊢
  have c1 : V.cell? ⟨g, 1, none⟩ = some (.int .i64 r.first) := (blk_cell hg 1).trans rfl
  have c2 : V.cell? ⟨g, 2, none⟩ = some (.int .i64 r.n) := (blk_cell hg 2).trans rfl
  have c3 : V.cell? ⟨g, 3, none⟩ = some (.int .i64 r.bytes) := (blk_cell hg 3).trans rfl
  have f1 := blk_frozen hg 1
  have f2 := blk_frozen hg 2
  have f3 := blk_frozen hg 3
  have HG := Aside0.mk hg
  have HL := Aside0.mk hgl
  have HC := Aside0.mk hch
  clear hg hgl hch c0
  simp only [Result.andThen_ok, Oper.upon]
  go_wp2
  go_end0
  refine ⟨rfl, ⟨?_, ?_, HH.out.2.2⟩, ((HC.out.mono (fun i _ e => .inr e)).set (.inl rfl)).set (.inl rfl) |>.set (.inl rfl)⟩
  · refine blk_put (cs := #[.slice (some ⟨gl, 0, none⟩) r.l.length r.l.length, .int .i64 0, .int .i64 0, .int .i64 r.bytes]) ?_ 3 _ (by simp [R.cells, clearR])
    refine blk_put (cs := #[.slice (some ⟨gl, 0, none⟩) r.l.length r.l.length, .int .i64 0, .int .i64 r.n, .int .i64 r.bytes]) ?_ 2 _ (by simp)
    exact blk_put HG.out 1 _ (by simp [R.cells])
  · refine blk_far (blk_far (blk_far ?_ (Ne.symm HH.out.2.2) _) (Ne.symm HH.out.2.2) _) (Ne.symm HH.out.2.2) _
    rw [HL.out, HN.out]
    simp [clearR]
end Go.Proofs.Ytfcpjblogeofpab
