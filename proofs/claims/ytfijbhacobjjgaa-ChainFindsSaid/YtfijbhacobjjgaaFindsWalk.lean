/- The walk of ChainFinds: it answers true. -/
import Derived.Test.YtfijbhacobjjgaaChainE
import Derived.Test.YtfijbhacobjjgaaOpen
import Derived.Test.YtfijbhacobjjgaaSteadyT
namespace Go.Proofs.Ytfijbhacobjjgaa
open Go.RowKit Go.Proofs.YtfijbhacobjjgaaW.PrintWords Go.Proofs.YtfijbhacobjjgaaW.PrintLast Go.Proofs.YtfijbhacobjjgaaW.PrintMore Go.Proofs.Ytfijbhacobjjgaa.Fr
set_option linter.unusedVariables false
set_option linter.unusedSimpArgs false
attribute [local go_sem] max2_int min2_int max_two min_two

open Go.Proofs.Ytfijbhacobjjgaa.Pl
/-- The finder, and the document's, side by side. -/
structure Bth (w0 w : World) (g gh ga gn gw : Nat) (T : ByteArray) (rf rw : List Nat) (v : Value) : Prop where
  fd : Fnd w g gh ga gn T rf
  rf : RefAt w0.heap.size w gw T v (ofNats rw)
  nv : ∀ k, v.ownBlock = some k → k ≠ gh ∧ k ≠ ga
  bel : Below w0.heap.size w0 w
  ge : w0.heap.size ≤ g ∧ w0.heap.size ≤ gh ∧ w0.heap.size ≤ ga ∧ w0.heap.size ≤ gn ∧ w0.heap.size ≤ gw
variable {w0 w w1 : World} {g gh ga gn gw : Nat} {T : ByteArray} {rf rw R1 : List Nat} {v v' : Value}
theorem row_blk {B n : Nat} {xs : List Value} (h : w.ownsRow B 3 1 v n xs) {k : Nat} (hk : v.ownBlock = some k) : ∃ cs, w.heap[k]? = some (.cells cs 3 (0, 0)) := by
  rcases h.2 with ⟨rfl, _⟩ | ⟨g, cap, cur, rfl, hb, hh, _⟩
  · simp [Value.ownBlock] at hk
  · have : g = k := by simpa [Value.ownBlock] using hk
    subst this
    exact ⟨_, hh⟩
theorem Bth.below (x : Bth w0 w g gh ga gn gw T rf rw v) (k : Below w.heap.size w w1) : Bth w0 w1 g gh ga gn gw T rf rw v := ⟨x.fd.below k, x.rf.below k, x.nv, below_step x.bel k, x.ge⟩
theorem Bth.apart (x : Bth w0 w g gh ga gn gw T rf rw v) : gw ≠ g ∧ gw ≠ gh ∧ gw ≠ ga ∧ gw ≠ gn ∧ ∀ k, v.ownBlock = some k → k ≠ g ∧ k ≠ gn := by
  obtain ⟨hs, ah, nt, y, _⟩ := x.fd
  refine ⟨blk_ne x.rf.box y.box (by decide), blk_ne x.rf.box y.heads (by decide), blk_ne x.rf.box y.ahead (by decide), blk_ne x.rf.box y.noted (by decide), fun k hk => ?_⟩
  obtain ⟨cs, hcs⟩ := row_blk x.rf.row hk
  exact ⟨blk_ne hcs y.box (by decide), blk_ne hcs y.noted (by decide)⟩
theorem Bth.fnote (x : Bth w0 w g gh ga gn gw T rf rw v) (hf : Fnd w1 g gh ga gn T R1) (hc : Ch (fun i => i = gh ∨ i = ga ∨ i = gn) w w1) : Bth w0 w1 g gh ga gn gw T R1 rw v := by
  have ha := x.apart
  have hg := x.ge
  exact ⟨hf, x.rf.ch hc (by omega) (fun k hk => by have := x.nv k hk; have := ha.2.2.2.2 k hk; omega), x.nv, Ch.onto x.bel hc x.bel.size (fun i hi => by omega), x.ge⟩
theorem Bth.rnote (x : Bth w0 w g gh ga gn gw T rf rw v) (hr : RefAt w0.heap.size w1 gw T v' (ofNats R1)) (hc : Ch (fun i => i = gw ∨ some i = v.ownBlock) w w1) (hv : v'.ownBlock = v.ownBlock ∨ ∃ b, v'.ownBlock = some b ∧ w.heap.size ≤ b) : Bth w0 w1 g gh ga gn gw T rf R1 v' := by
  have ha := x.apart
  have hg := x.ge
  obtain ⟨hs, ah, nt, y, _⟩ := x.fd
  have l1 := y.heads.lt
  have l2 := y.ahead.lt
  refine ⟨x.fd.ch hc ?_ ?_ ?_ ?_, hr, fun k hk => ?_, Ch.onto x.bel hc x.bel.size (fun i hi => ?_), x.ge⟩
  · rintro (e | e)
    · omega
    · exact (ha.2.2.2.2 _ e.symm).1 rfl
  · rintro (e | e)
    · omega
    · exact (x.nv _ e.symm).1 rfl
  · rintro (e | e)
    · omega
    · exact (x.nv _ e.symm).2 rfl
  · rintro (e | e)
    · omega
    · exact (ha.2.2.2.2 _ e.symm).2 rfl
  · rcases hv with e | ⟨b, e, hb⟩
    · exact x.nv k (e ▸ hk)
    · rw [e] at hk
      cases hk
      omega
  · rcases hi with e | e
    · omega
    · exact own_base x.rf.row _ e.symm
theorem Bth.px_f {gx : Nat} {cs : Array Value} (x : Bth w0 w g gh ga gn gw T rf rw v) (hp : w.heap[gx]? = some (.cells cs 30 (0, 0))) (hc : Ch (fun i => i = gh ∨ i = ga ∨ i = gn) w w1) : w1.heap[gx]? = some (.cells cs 30 (0, 0)) := by
  obtain ⟨hs, ah, nt, y, _⟩ := x.fd
  have h1 := blk_ne hp y.heads (by decide)
  have h2 := blk_ne hp y.ahead (by decide)
  have h3 := blk_ne hp y.noted (by decide)
  exact hc.blk hp (by omega)
theorem Bth.px_r {gx : Nat} {cs : Array Value} (x : Bth w0 w g gh ga gn gw T rf rw v) (hp : w.heap[gx]? = some (.cells cs 30 (0, 0))) (hc : Ch (fun i => i = gw ∨ some i = v.ownBlock) w w1) : w1.heap[gx]? = some (.cells cs 30 (0, 0)) := by
  have h1 := blk_ne hp x.rf.box (by decide)
  refine hc.blk hp ?_
  rintro (e | e)
  · omega
  · obtain ⟨cs', hcs⟩ := row_blk x.rf.row e.symm
    exact blk_ne hp hcs (by decide) rfl
theorem Bth.v_eq {rf' rw' : List Nat} (x : Bth w0 w g gh ga gn gw T rf rw v) (y : Bth w0 w g gh ga gn gw T rf' rw' v') : v = v' := by
  have := x.rf.box.symm.trans y.rf.box
  simpa using this
set_option maxRecDepth 100000 in
set_option maxHeartbeats 8000000 in
theorem finds_walk (T : ByteArray) (hT : T.size ≤ 140737488351232) (A : Option Addr) (len cap : Nat) (xs : List (Int × Int)) (depth : Int) (hdp : (Lit.int .i64 depth).wf = true) (w0 : World) (hcap : len ≤ cap) (hC : int2.C w0 A len xs) (hwf : ∀ p ∈ xs, (Lit.int .i64 p.1).wf = true ∧ (Lit.int .i64 p.2).wf = true) :
    Calls Try.prog 3 #[.string T, .slice A len cap, .int .i64 depth] w0 fun e w' => e = .returned (.bool true) ∧ Below w0.heap.size w0 w' := by
  have hlm : len ≤ 9223372036854775807 := hC.2.1
  have HRD : Aside0 (∀ k, k < len → ∃ (ad : Addr) (x n : Int), A = some ad ∧ w0.cell? (ad.add (k * 2)) = some (.int .i64 x) ∧ w0.cell? (ad.add (k * 2 + 1)) = some (.int .i64 n) ∧ -9223372036854775808 ≤ x ∧ -9223372036854775808 ≤ n) := ⟨fun k hk => by
    obtain ⟨ad, he, hall⟩ := hC.2.2 (by omega)
    have hkl : k < xs.length := by rw [hC.1]; exact hk
    obtain ⟨c, _, hK, hcell⟩ := hall k _ (List.getElem?_eq_getElem hkl)
    have hK' : c = [.int .i64 (xs[k]).1, .int .i64 (xs[k]).2] := hK
    subst hK'
    have h1 := hwf _ (List.getElem_mem hkl)
    exact ⟨ad, (xs[k]).1, (xs[k]).2, he, hcell 0 _ rfl, hcell 1 _ rfl, (wf_i64 h1.1).1, (wf_i64 h1.2).1⟩⟩
  clear hC hwf hdp
  by_cases hlen : 200 < T.size ∨ 100 < len
  · have hd : (decide ((200 : Int) < (T.size : Int)) = true) ∨ (decide ((200 : Int) < (T.size : Int)) = false ∧ decide ((100 : Int) < (len : Int)) = true) := by
      by_cases h : 200 < T.size
      · exact .inl (decide_eq_true (by omega))
      · exact .inr ⟨decide_eq_false (by omega), decide_eq_true (by omega)⟩
    clear hlen
    rcases hd with hd | ⟨hd, hd2⟩
    all_goals
      go_enter Try.func3, Try.ntmps3
      go_wp2_with fail
      refine (awake_any _).mono ?_
      rintro e w1 ⟨rfl, hb⟩
      have HB := Aside0.mk hb
      clear hb
      go_wp2
      go_ret
      exact ⟨rfl, HB.out⟩
  · have hd1 : decide ((200 : Int) < (T.size : Int)) = false := decide_eq_false (by omega)
    have hd2 : decide ((100 : Int) < (len : Int)) = false := decide_eq_false (by omega)
    have hT200 : T.size ≤ 200 := by omega
    have hl100 : len ≤ 100 := by omega
    clear hlen
    go_enter Try.func3, Try.ntmps3
    go_wp2_with fail
    refine (awake_any _).mono ?_
    rintro e w1 ⟨rfl, hb⟩
    have HB := Aside0.mk hb
    clear hb
    go_wp2_with fail
    refine (new_any T (by omega) _).mono ?_
    rintro e w2 ⟨g, gh, ga, gn, hs, rfl, hf, hh, hb, hg, hgh, hga, hgn⟩
    have HT : Aside0 (Fnd w2 g gh ga gn T [] ∧ Below w0.heap.size w0 w2 ∧ w0.heap.size ≤ g ∧ w0.heap.size ≤ gh ∧ w0.heap.size ≤ ga ∧ w0.heap.size ≤ gn) := ⟨fnew_of hf hh, below_step HB.out hb, by have := HB.out.size; omega, by have := HB.out.size; omega, by have := HB.out.size; omega, by have := HB.out.size; omega⟩
    clear hf hh hb hg hgh hga hgn HB
    go_wp2_with fail
    have HT2 : Aside0 (Bth w0 (w2.alloc (.cells #[.string T, .slice none 0 0] 29)) g gh ga gn w2.heap.size T [] [] (.slice none 0 0)) := ⟨by
      obtain ⟨h1, h2, h3⟩ := HT.out
      exact ⟨h1.below (below_alloc (Below.refl _ _) _), ⟨blk_new w2 _, own_nil _ _ _ _, (by intro e; cases e)⟩, (fun k hk => by cases hk), below_alloc h2 _, h3.1, h3.2.1, h3.2.2.1, h3.2.2.2, h2.size⟩⟩
    clear HT
    generalize w2.alloc (.cells #[.string T, .slice none 0 0] 29) = W at HT2 ⊢
    generalize w2.heap.size = gw at HT2 ⊢
    go_loopg [32] len (fun gk y wr => ∃ (k : Nat) (rs : List Nat) (v : Value), Aside0 (k + gk = len) ∧ y = .int .i64 k ∧ Aside0 (Bth w0 wr g gh ga gn gw T rs rs v ∧ rs.length ≤ k))
    case atStart => exact ⟨0, [], _, ⟨by omega⟩, rfl, ⟨HT2.out, by simp⟩⟩
    case round =>
      clear HT2
      obtain ⟨k, rs, v, HK, rfl, HI⟩ := hrel
      by_cases hlt : k < len
      · obtain ⟨ad, x, y, rfl, hc0, hc1, hx0, hy0⟩ := HRD.out k hlt
        have hc2 := pw_cell_below HI.out.1.bel hc0
        have hc3 := pw_cell_below HI.out.1.bel hc1
        rw [← add_add, cell_off _ (by decide)] at hc3
        clear hc0 hc1
        go_wp2
        have HT : Aside0 (Bth w0 (wr.alloc (.cells #[.int .i64 x, .int .i64 y] 30)) g gh ga gn gw T rs rs v) := ⟨HI.out.1.below (below_alloc (Below.refl _ _) _)⟩
        have HP : Aside0 ((wr.alloc (.cells #[.int .i64 x, .int .i64 y] 30)).heap[wr.heap.size]? = some (.cells #[.int .i64 x, .int .i64 y] 30 (0, 0))) := ⟨blk_new wr _⟩
        generalize wr.alloc (.cells #[.int .i64 x, .int .i64 y] 30) = V at HT HP ⊢
        generalize wr.heap.size = gx at HT HP ⊢
        obtain ⟨R1, hR1⟩ : ∃ R1, newR T rs x = R1 := ⟨_, rfl⟩
        obtain ⟨ok, hok⟩ : ∃ ok, okN T rs x = ok := ⟨_, rfl⟩
        have hrl : rs.length ≤ 100 := by have := HI.out.2; omega
        have HN : Aside0 (∀ (w : World) (g : Nat) {gh ga gn : Nat}, Fnd w g gh ga gn T rs → Calls Try.prog 8 #[.pointer (some ⟨g, 0, none⟩), .int .i64 x] w fun e w' => e = .returned (.bool ok) ∧ Fnd w' g gh ga gn T R1 ∧ Ch (fun i => i = gh ∨ i = ga ∨ i = gn) w w') := ⟨fun w g gh ga gn h => by have := fnote x hx0 h; rwa [hR1, hok] at this⟩
        have HRN : Aside0 (∀ (w : World) (v : Value), Below w0.heap.size w0 w → RefAt w0.heap.size w gw T v (ofNats rs) → Calls Try.prog 9 #[.pointer (some ⟨gw, 0, none⟩), .int .i64 x] w fun e w' => ∃ v', e = .returned (.bool ok) ∧ RefAt w0.heap.size w' gw T v' (ofNats R1) ∧ Ch (fun i => i = gw ∨ some i = v.ownBlock) w w' ∧ (v'.ownBlock = v.ownBlock ∨ ∃ b, v'.ownBlock = some b ∧ w.heap.size ≤ b)) := ⟨fun w v hb h => by
          have := rnote x hx0 (by omega) (by omega) hb.size h
          unfold RNoted at this
          rwa [hR1, hok] at this⟩
        have HR : Aside0 (R1.length ≤ k + 1) := ⟨by rw [← hR1]; unfold newR; have := HI.out.2; split <;> simp <;> omega⟩
        obtain ⟨o, n, hon⟩ : ∃ o n, foundI T R1 y depth = (o, n) := ⟨_, _, rfl⟩
        have HF : Aside0 (∀ (w : World), Fnd w g gh ga gn T R1 → Calls Try.prog 10 #[.pointer (some ⟨g, 0, none⟩), .int .i64 y, .int .i64 depth] w fun e w' => e = .returned (.tuple #[.int .i64 o, .int .i64 n]) ∧ Drawn0 w w') := ⟨fun w h => by have := ffind y depth hy0 h; rwa [hon] at this⟩
        have HRF : Aside0 (∀ (w : World) (v : Value), (∃ w, Fnd w g gh ga gn T R1) → RefAt w0.heap.size w gw T v (ofNats R1) → Calls Try.prog 11 #[.pointer (some ⟨gw, 0, none⟩), .int .i64 y, .int .i64 depth] w fun e w' => e = .returned (.tuple #[.int .i64 o, .int .i64 n]) ∧ Drawn0 w w') := ⟨fun w v hF h => by
          obtain ⟨w9, hs9, ah9, nt9, _, _, _, h9⟩ := hF
          have := rfind y depth hy0 (by omega) (by have := HR.out; omega) h9 h
          rwa [hon] at this⟩
        clear hR1 hok hon
        refine St.steadyG (n := 9) (by kernel_rfl) ([] :: [] :: [(1, 37)] :: [(0, 36), (2, 38)] :: [] :: [] :: [(5, 41)] :: [(4, 40), (6, 42)] :: [(3, 39), (7, 43)] :: []) (some 36 :: some 37 :: some 38 :: some 39 :: some 40 :: some 41 :: some 42 :: some 43 :: some 44 :: []) (by kernel_rfl) ((St.eqT ?c9_0) :: (St.eqT ?c9_1) :: (St.eqT ?c9_2) :: (St.eqT ?c9_3) :: (St.eqT ?c9_4) :: (St.eqT ?c9_5) :: (St.eqT ?c9_6) :: (St.eqT ?c9_7) :: (St.eqT ?c9_8) :: []) rfl (by rfl) (fun fl w' => ∃ v9, (Bth w0 w' g gh ga gn gw T (bif fl 3 then R1 else rs) (bif fl 7 then R1 else rs) v9) ∧ w'.heap[gx]? = some (.cells #[.int .i64 x, .int .i64 y] 30 (0, 0))) (fun i wa wb => (i = 3 → ∀ rw v9, Bth w0 wa g gh ga gn gw T rs rw v9 → wa.heap[gx]? = some (.cells #[.int .i64 x, .int .i64 y] 30 (0, 0)) → Bth w0 wb g gh ga gn gw T R1 rw v9 ∧ wb.heap[gx]? = some (.cells #[.int .i64 x, .int .i64 y] 30 (0, 0))) ∧ (i = 7 → ∀ rf v9, Bth w0 wa g gh ga gn gw T rf rs v9 → wa.heap[gx]? = some (.cells #[.int .i64 x, .int .i64 y] 30 (0, 0)) → ∃ v8, Bth w0 wb g gh ga gn gw T rf R1 v8 ∧ wb.heap[gx]? = some (.cells #[.int .i64 x, .int .i64 y] 30 (0, 0))) ∧ (i ≠ 3 → i ≠ 7 → wa = wb)) ?hst ?h0 (fun i w' => ∃ rf rw v9, Bth w0 w' g gh ga gn gw T rf rw v9 ∧ w'.heap[gx]? = some (.cells #[.int .i64 x, .int .i64 y] 30 (0, 0)) ∧ (i = 3 → rf = rs) ∧ (i = 7 → rw = rs)) ?hB ?hG ?hop ?hend
        case hop =>
          refine ⟨?_, ?_, ?_, ?_, ?_, ?_, ?_, ?_, ?_, trivial⟩
          · intro w hB
            simp only [St.withD]
            refine St.ob_value (v := ?_) (w' := w) (by rfl) ?_ ⟨⟨fun e => absurd e (by decide), fun e => absurd e (by decide), fun _ _ => rfl⟩, ?_⟩
            rotate_left
            · go_simp
              with_reducible rfl
            · rfl
          · intro w hB
            simp only [St.withD]
            refine St.ob_value (v := ?_) (w' := w) (by rfl) ?_ ⟨⟨fun e => absurd e (by decide), fun e => absurd e (by decide), fun _ _ => rfl⟩, ?_⟩
            rotate_left
            · go_simp
              with_reducible rfl
            · rfl
          · intro w hB; rintro _ ⟨_, rfl⟩
            simp only [St.withD, List.nil_append, List.cons_append, Act.put, List.setIfInBounds_toArray, List.set_cons_zero, List.set_cons_succ]
            obtain ⟨rf, rw, v9, hX, hpx, _⟩ := hB
            have c0 : w.cell? ⟨gx, 0, none⟩ = some (.int .i64 x) := (blk_cell hpx 0).trans rfl
            refine St.ob_value (v := ?_) (w' := w) (by rfl) ?_ ⟨⟨fun e => absurd e (by decide), fun e => absurd e (by decide), fun _ _ => rfl⟩, ?_⟩
            rotate_left
            · go_simp
              with_reducible rfl
            · rfl
          · intro w hB; rintro _ ⟨_, rfl⟩ _ ⟨_, rfl⟩
            simp only [St.withD, List.nil_append, List.cons_append, Act.put, List.setIfInBounds_toArray, List.set_cons_zero, List.set_cons_succ]
            obtain ⟨rf, rw, v9, hX, hpx, h3, _⟩ := hB
            obtain rfl := h3 rfl
            refine St.ob_call Try.func8 (by kernel_rfl) rfl #[.pointer (some ⟨g, 0, none⟩), .int .i64 x] (by rfl) rfl (by (try simp only [List.map_toArray, List.map_cons, List.map_nil]); first | done | rfl | (simp only [List.length_drop, List.length_take]; rfl)) ?_
            refine (HN.out _ _ hX.fd).mono ?_
            rintro e w1 ⟨rfl, hfd, hch⟩
            refine ⟨_, rfl, ⟨fun _ rw' v' hx' hp' => ⟨hx'.fnote hfd hch, hx'.px_f hp' hch⟩, fun e => absurd e (by decide), fun e => absurd rfl e⟩, ?_⟩
            rfl
          · intro w hB
            simp only [St.withD]
            refine St.ob_value (v := ?_) (w' := w) (by rfl) ?_ ⟨⟨fun e => absurd e (by decide), fun e => absurd e (by decide), fun _ _ => rfl⟩, ?_⟩
            rotate_left
            · go_simp
              with_reducible rfl
            · rfl
          · intro w hB
            simp only [St.withD]
            refine St.ob_value (v := ?_) (w' := w) (by rfl) ?_ ⟨⟨fun e => absurd e (by decide), fun e => absurd e (by decide), fun _ _ => rfl⟩, ?_⟩
            rotate_left
            · go_simp
              with_reducible rfl
            · rfl
          · intro w hB; rintro _ ⟨_, rfl⟩
            simp only [St.withD, List.nil_append, List.cons_append, Act.put, List.setIfInBounds_toArray, List.set_cons_zero, List.set_cons_succ]
            obtain ⟨rf, rw, v9, hX, hpx, _⟩ := hB
            have c0 : w.cell? ⟨gx, 0, none⟩ = some (.int .i64 x) := (blk_cell hpx 0).trans rfl
            refine St.ob_value (v := ?_) (w' := w) (by rfl) ?_ ⟨⟨fun e => absurd e (by decide), fun e => absurd e (by decide), fun _ _ => rfl⟩, ?_⟩
            rotate_left
            · go_simp
              with_reducible rfl
            · rfl
          · intro w hB; rintro _ ⟨_, rfl⟩ _ ⟨_, rfl⟩
            simp only [St.withD, List.nil_append, List.cons_append, Act.put, List.setIfInBounds_toArray, List.set_cons_zero, List.set_cons_succ]
            obtain ⟨rf, rw, v9, hX, hpx, _, h7⟩ := hB
            obtain rfl := h7 rfl
            refine St.ob_call Try.func9 (by kernel_rfl) rfl #[.pointer (some ⟨gw, 0, none⟩), .int .i64 x] (by rfl) rfl (by (try simp only [List.map_toArray, List.map_cons, List.map_nil]); first | done | rfl | (simp only [List.length_drop, List.length_take]; rfl)) ?_
            refine (HRN.out _ _ hX.bel hX.rf).mono ?_
            rintro e w1 ⟨v8, rfl, hrf, hch, hv8⟩
            refine ⟨_, rfl, ⟨fun e => absurd e (by decide), fun _ rf' v' hx' hp' => by obtain rfl := hx'.v_eq hX; exact ⟨v8, hx'.rnote hrf hch hv8, hx'.px_r hp' hch⟩, fun _ e => absurd rfl e⟩, ?_⟩
            rfl
          · intro w hB; rintro _ ⟨_, rfl⟩ _ ⟨_, rfl⟩
            simp only [St.withD, List.nil_append, List.cons_append, Act.put, List.setIfInBounds_toArray, List.set_cons_zero, List.set_cons_succ]
            refine St.ob_value (v := ?_) (w' := w) (by rfl) ?_ ⟨⟨fun e => absurd e (by decide), fun e => absurd e (by decide), fun _ _ => rfl⟩, ?_⟩
            rotate_left
            · go_simp
              with_reducible rfl
            · rfl
        case hst =>
          intro i j fl hi hj _ _ _ ds v wa wb ht _
          refine St.sts_get (Rel := fun _ _ _ => True) 0 _ j (by simpa using hj) ?_ ds v wa wb ht trivial
          exact ⟨St.eqT_st, St.eqT_st, St.eqT_st, St.eqT_st, St.eqT_st, St.eqT_st, St.eqT_st, St.eqT_st, St.eqT_st, trivial⟩
        case h0 => exact ⟨v, HT.out.below (below_drew1 (Below.refl _ _)), HP.out⟩
        case hB => exact fun i fl w' hi hfi _ _ hG => by obtain ⟨v9, hG, hp⟩ := hG; exact ⟨_, _, v9, hG, hp, fun e => by subst e; rw [hfi]; rfl, fun e => by subst e; rw [hfi]; rfl⟩
        case hG => (
          intro i fl wa wb hi hfi _ _ hG hR
          obtain ⟨v9, hG, hp⟩ := hG
          by_cases h3 : i = 3
          · subst h3
            rw [hfi] at hG
            have := hR.1 rfl _ _ hG hp
            exact ⟨v9, by simpa [St.upB] using this.1, this.2⟩
          · by_cases h7 : i = 7
            · subst h7
              rw [hfi] at hG
              obtain ⟨v8, h8, hp8⟩ := hR.2.1 rfl _ _ hG hp
              exact ⟨v8, by simpa [St.upB] using h8, hp8⟩
            · have e := hR.2.2 h3 h7
              subst e
              have e2 : St.upB fl i 3 = fl 3 := by unfold St.upB; rw [if_neg (Ne.symm h3)]
              have e3 : St.upB fl i 7 = fl 7 := by unfold St.upB; rw [if_neg (Ne.symm h7)]
              exact ⟨v9, by simpa only [e2, e3] using hG, hp⟩)
        case hend =>
          intro fl w hall hB
          rintro _ rfl _ rfl _ rfl _ rfl _ rfl _ rfl _ rfl _ rfl _ rfl
          simp only [List.map_cons, List.map_nil, List.nil_append, List.cons_append, List.getD_cons_zero, List.getD_cons_succ, Act.put, List.setIfInBounds_toArray, List.set_cons_zero, List.set_cons_succ]
          rw [St.withE_nil]
          obtain ⟨v8, hG, hpx⟩ := hB
          have HT2 : Aside0 (Bth w0 w g gh ga gn gw T R1 R1 v8) := ⟨by have h3 := hall 3 (by decide); have h7 := hall 7 (by decide); simpa only [h3, h7, cond_true] using hG⟩
          have HP2 := Aside0.mk hpx
          clear hG hpx hall
          have c1 : w.cell? ⟨gx, 1, none⟩ = some (.int .i64 y) := (blk_cell HP2.out 1).trans rfl
          go_wp2_with fail
          refine (HF.out _ HT2.out.fd).mono ?_
          rintro e w3 ⟨rfl, hd⟩
          have HT3 := Aside0.mk (HT2.out.below hd.below)
          have HP3 := Aside0.mk (blk_below HP2.out hd.below)
          clear hd HT2 HP2 c1
          have c1 : w3.cell? ⟨gx, 1, none⟩ = some (.int .i64 y) := (blk_cell HP3.out 1).trans rfl
          go_wp2_with fail
          refine (HRF.out _ _ ⟨_, HT3.out.fd⟩ HT3.out.rf).mono ?_
          rintro e w4 ⟨rfl, hd⟩
          have HT4 := Aside0.mk (HT3.out.below hd.below)
          clear hd HT3 HP3 c1
          go_wp2
          go_roundg (gk - 1)
          case measure => have := HK.out; omega
          case rel => exact ⟨k + 1, R1, v8, ⟨by have := HK.out; omega⟩, by go_num, ⟨HT4.out, HR.out⟩⟩
      · go_wp2_with fail
        refine (flen HI.out.1.fd).mono ?_
        rintro e w5 ⟨rfl, rfl⟩
        go_wp2
        go_ret
        exact ⟨rfl, HI.out.1.bel⟩
end Go.Proofs.Ytfijbhacobjjgaa
