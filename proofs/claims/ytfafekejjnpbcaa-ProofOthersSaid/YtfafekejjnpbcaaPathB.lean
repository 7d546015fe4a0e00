/- The document's paths. -/
import Derived.Test.YtfafekejjnpbcaaProg
import Derived.Test.YtfafekejjnpbcaaVals
import Derived.Test.YtfafekejjnpbcaaWLast
import Derived.Test.YtfafekejjnpbcaaWMore
import Derived.RegionTactic
import Derived.ChangeAlike
import Derived.BigRegion
import Derived.WalkLawsBesides
import Derived.WalkSpells
import Derived.Deep.LoopGhost
import Derived.Deep.QuietTactic
import Derived.BigQuiet
import Derived.OwnWalk
import Derived.Test.YtfafekejjnpbcaaClimbB
import Derived.Test.YtfafekejjnpbcaaSteadyF
import Derived.StillTailTactics
namespace Go.Proofs.Ytfafekejjnpbcaa
open Go.RowKit Go.Proofs.YtfafekejjnpbcaaW.PrintWords Go.Proofs.YtfafekejjnpbcaaW.PrintLast Go.Proofs.YtfafekejjnpbcaaW.PrintMore Go.Proofs.Ytfafekejjnpbcaa.Fr
set_option linter.unusedVariables false
set_option linter.unusedSimpArgs false
attribute [local go_sem] max2_int min2_int max_two min_two

open Pl
theorem nums_snoc (k : IntKind) (l : List Int) (x : Int) : nums k l ++ [.int k x] = nums k (l ++ [x]) := by simp [nums]
/-- A path that a call of the document answered. -/
def RefPathPost (xs : List Int) (w : World) (e : Ending) (w' : World) : Prop := ∃ v, e = .returned v ∧ w'.ownsRow w.heap.size 24 1 v xs.length (nums .u64 xs) ∧ Below w.heap.size w w'
set_option maxRecDepth 100000 in
set_option maxHeartbeats 2000000 in
theorem refPath_in : ∀ (n : Nat) (l : List ByteArray) (A : Option Addr) (c i : Nat) (w0 : World), l.length = n → n ≤ c → c ≤ 9223372036854775807 → n ≤ 100000 → i < n → RdS w0 A l → (∀ s ∈ l, s.size ≤ 140737488355328) → Calls Try.prog 11 #[.slice A n c, .int .i64 i] w0 (RefPathPost (path lf pr l i) w0) := by
  intro n
  induction n using Nat.strongRecOn with
  | _ n ih =>
    intro l A c i w0 hl hcap hc0 hn hi HR HS
    by_cases h2 : 2 ≤ n
    · have HR := Aside0.mk HR
      have HS := Aside0.mk HS
      obtain ⟨ad, rfl, _⟩ := HR.out 0 (by omega)
      have hh1 := half_lt h2
      have hh2 := half_pos n
      have HPL : Aside0 (i < half n → path lf pr l i = path lf pr (l.take (half n)) i ++ [root lf pr (l.drop (half n))]) := ⟨fun h => by rw [← hl]; exact path_low lf pr l i (by omega) (by rw [hl]; exact h)⟩
      have HPH : Aside0 (¬ i < half n → path lf pr l i = path lf pr (l.drop (half n)) (i - half n) ++ [root lf pr (l.take (half n))]) := ⟨fun h => by rw [← hl]; exact path_high lf pr l i (by omega) (by rw [hl]; exact h)⟩
      obtain ⟨h, hh⟩ : ∃ h, half n = h := ⟨_, rfl⟩
      rw [hh] at hh1 hh2 HPL HPH
      have hb : ¬ (n : Int) = 1 := by omega
      have k1 : h ≤ c := by omega
      have k2 : h ≤ n := by omega
      have k3 : ¬ c = h := by omega
      go_enter Try.func11, Try.ntmps11
      go_wp2_with fail
      refine (refHalf_any n h2 (by omega) w0).mono ?_
      rintro e w1 ⟨rfl, rfl⟩
      rw [hh]
      clear hh
      by_cases hc : i < h
      · have hci : (i : Int) < (h : Int) := by omega
        have HIH : Aside0 (∀ w, Below w1.heap.size w1 w → Calls Try.prog 11 #[.slice (some ad) h c, .int .i64 (i : Nat)] w (RefPathPost (path lf pr (l.take h) i) w)) := ⟨fun w hw => by
          have := ih h (by omega) (l.take h) (some ad) c i w (by rw [List.length_take]; omega) (by omega) (by omega) (by omega) (by omega) ((HR.out.below hw).take h) (fun s hs => HS.out s (List.mem_of_mem_take hs))
          exact this⟩
        have HRT : Aside0 (∀ w, Below w1.heap.size w1 w → Calls Try.prog 9 #[.slice (some (ad.add h)) (n - h) (c - h)] w fun e w' => e = .returned (.int .u64 (root lf pr (l.drop h))) ∧ Below w.heap.size w w') := ⟨fun w hw => refRoot_any (n - h) (l.drop h) (some (ad.add h)) (c - h) w (by rw [List.length_drop]; omega) (by omega) (by omega) (by omega) ((HR.out.below hw).drop h) (fun s hs => HS.out s (List.mem_of_mem_drop hs))⟩
        have HP := Aside0.mk (HPL.out hc)
        have hxl : (path lf pr (l.take h) i).length ≤ 100000 := by
          rw [path_length lf pr h (l.take h) i (by rw [List.length_take]; omega)]
          have := steps_le h i (by omega)
          omega
        obtain ⟨xs, hxs⟩ : ∃ xs, path lf pr (l.take h) i = xs := ⟨_, rfl⟩
        obtain ⟨y, hy⟩ : ∃ y, root lf pr (l.drop h) = y := ⟨_, rfl⟩
        rw [hxs] at HP HIH hxl
        rw [hy] at HP HRT
        clear hxs hy ih

        go_wp2
        refine St.steadyF (n := 12) (by kernel_rfl) ([] :: [] :: [(0, 15), (1, 16)] :: [] :: [(2, 17), (3, 18)] :: [] :: [] :: [(5, 20), (6, 21)] :: [(7, 22)] :: [(8, 23)] :: [(4, 19), (9, 24)] :: [(10, 25)] :: []) (some 15 :: some 16 :: some 17 :: some 18 :: some 19 :: some 20 :: some 21 :: some 22 :: some 23 :: some 24 :: some 25 :: some 4 :: []) (by kernel_rfl) (fun lf => ((St.eqT ?c5_0x12) :: (St.eqT ?c5_1x12) :: (St.eqT ?c5_2x12) :: (St.eqT ?c5_3x12) :: (fun _ v w => lf 10 = false → w.ownsRow w1.heap.size 24 1 v xs.length (nums .u64 xs)) :: (St.eqT ?c5_5x12) :: (St.eqT ?c5_6x12) :: (St.eqT ?c5_7x12) :: (St.eqT ?c5_8x12) :: (fun _ v w => lf 10 = false → ∃ k, v = .slice (some ⟨k, 0, none⟩) 1 1 ∧ w.heap[k]? = some (.cells #[.int .u64 y] 24 (0, 0))) :: (fun _ v w => w.ownsRow w1.heap.size 24 1 v (xs ++ [y]).length (nums .u64 (xs ++ [y]))) :: (fun ds v w => v = ds.getD 0 undef ∧ w.ownsRow w1.heap.size 24 1 v (xs ++ [y]).length (nums .u64 (xs ++ [y]))) :: [])) (fun _ => rfl) (by rfl) (fun lf w => Below w1.heap.size w1 w) (fun i wa wb => Below (bif i == 10 then w1.heap.size else wa.heap.size) wa wb) ?hst ?h0 (fun i lf w => Below w1.heap.size w1 w) ?hB ?hG ?hop ?hend
        case hop =>
          refine ⟨?_, ?_, ?_, ?_, ?_, ?_, ?_, ?_, ?_, ?_, ?_, ?_, trivial⟩
          · intro lf hlf w hB
            simp only [St.withD]
            refine St.ob_value (v := ?_) (w' := w) (by rfl) ?_ ⟨Below.refl _ _, ?_⟩
            rotate_left
            · go_simp
              with_reducible rfl
            · rfl
          · intro lf hlf w hB
            simp only [St.withD]
            refine St.ob_value (v := ?_) (w' := w) (by rfl) ?_ ⟨Below.refl _ _, ?_⟩
            rotate_left
            · go_simp
              with_reducible rfl
            · rfl
          · intro lf hlf w hB; rintro _ ⟨_, rfl⟩ _ ⟨_, rfl⟩
            simp only [St.withD, List.nil_append, List.cons_append, Act.put, List.setIfInBounds_toArray, List.set_cons_zero, List.set_cons_succ]
            refine St.ob_value (v := ?_) (w' := w) (by rfl) ?_ ⟨Below.refl _ _, ?_⟩
            rotate_left
            · go_simp
              with_reducible rfl
            · rfl
          · intro lf hlf w hB
            simp only [St.withD]
            refine St.ob_value (v := ?_) (w' := w) (by rfl) ?_ ⟨Below.refl _ _, ?_⟩
            rotate_left
            · go_simp
              with_reducible rfl
            · rfl
          · intro lf hlf w hB; rintro _ ⟨_, rfl⟩ _ ⟨_, rfl⟩
            simp only [St.withD, List.nil_append, List.cons_append, Act.put, List.setIfInBounds_toArray, List.set_cons_zero, List.set_cons_succ]
            refine St.ob_call Try.func11 (by kernel_rfl) rfl #[.slice (some ad) h c, .int .i64 (i : Nat)] (by rfl) rfl (by (try simp only [List.map_toArray, List.map_cons, List.map_nil]); first | done | rfl | (simp only [List.length_drop, List.length_take]; rfl)) ?_
            refine (HIH.out w hB).mono ?_
            rintro e w2 ⟨v, rfl, hown, hb2⟩
            refine ⟨_, rfl, hb2, ?_⟩
            exact fun _ => own_le hown hB.size
          · intro lf hlf w hB
            simp only [St.withD]
            refine St.ob_value (v := ?_) (w' := w) (by rfl) ?_ ⟨Below.refl _ _, ?_⟩
            rotate_left
            · go_simp
              with_reducible rfl
            · rfl
          · intro lf hlf w hB
            simp only [St.withD]
            refine St.ob_value (v := ?_) (w' := w) (by rfl) ?_ ⟨Below.refl _ _, ?_⟩
            rotate_left
            · go_simp
              with_reducible rfl
            · rfl
          · intro lf hlf w hB; rintro _ ⟨_, rfl⟩ _ ⟨_, rfl⟩
            simp only [St.withD, List.nil_append, List.cons_append, Act.put, List.setIfInBounds_toArray, List.set_cons_zero, List.set_cons_succ]
            refine St.ob_value (v := ?_) (w' := w) (by rfl) ?_ ⟨Below.refl _ _, ?_⟩
            rotate_left
            · go_simp
              with_reducible rfl
            · rfl
          · intro lf hlf w hB; rintro _ ⟨_, rfl⟩
            simp only [St.withD, List.nil_append, List.cons_append, Act.put, List.setIfInBounds_toArray, List.set_cons_zero, List.set_cons_succ]
            refine St.ob_call Try.func9 (by kernel_rfl) rfl #[.slice (some (ad.add h)) (n - h) (c - h)] (by rfl) rfl (by (try simp only [List.map_toArray, List.map_cons, List.map_nil]); first | done | rfl | (simp only [List.length_drop, List.length_take]; rfl)) ?_
            refine (HRT.out w hB).mono ?_
            rintro e w2 ⟨rfl, hb2⟩
            refine ⟨_, rfl, hb2, ?_⟩
            rfl
          · intro lf hlf w hB; rintro _ ⟨_, rfl⟩
            simp only [St.withD, List.nil_append, List.cons_append, Act.put, List.setIfInBounds_toArray, List.set_cons_zero, List.set_cons_succ]
            refine St.ob_value (v := .slice (some ⟨w.heap.size, 0, none⟩) 1 1) (w' := w.alloc (.cells #[.int .u64 y] 24 (0, 0))) (by rfl) (by go_simp) ⟨below_alloc (Below.refl _ _) _, fun _ => ⟨_, rfl, blk_new w _⟩⟩
          · intro lf hlf w hB; rintro v4 ⟨ds4, ht4⟩ v9 ⟨ds9, ht9⟩
            simp only [St.withD, List.nil_append, List.cons_append, Act.put, List.setIfInBounds_toArray, List.set_cons_zero, List.set_cons_succ]
            have hlf : lf 10 = false := hlf
            obtain ⟨k, rfl, hk⟩ := ht9 hlf
            have hrow : w.ownsRow w1.heap.size 24 1 v4 xs.length (nums .u64 xs) := ht4 hlf
            obtain ⟨v1, w2, hrun, hown, hgr, _⟩ := ap_one (P := Try.prog) (t := 26) (ty := 26) Try.underlying26 info24 (by rfl) (by decide) (xs := nums .u64 xs) (by rw [nums_length]; exact hrow) hk (by rfl) hB.size (by rw [nums_length]; omega)
            rw [nums_snoc] at hown
            exact St.ob_value (v := v1) (w' := w2) (by rfl) (append_op rfl (by rfl) (by rfl) hrun) ⟨(Below.refl _ _).grown hgr hB.size (own_base hrow), by rw [nums_length] at hown; exact hown⟩
          · intro lf hlf w hB; rintro v10 ⟨ds10, ht10⟩
            simp only [St.withD, List.nil_append, List.cons_append, Act.put, List.setIfInBounds_toArray, List.set_cons_zero, List.set_cons_succ]
            refine St.ob_value (v := v10) (w' := w) (by rfl) ?_ ⟨Below.refl _ _, rfl, ht10⟩
            go_simp
        case hst =>
          intro i jx fl hi hj hfi hfj hcl dsx vx wa wb ht hR
          rcases (by omega : jx = 0 ∨ jx = 1 ∨ jx = 2 ∨ jx = 3 ∨ jx = 4 ∨ jx = 5 ∨ jx = 6 ∨ jx = 7 ∨ jx = 8 ∨ jx = 9 ∨ jx = 10 ∨ jx = 11) with rfl | rfl | rfl | rfl | rfl | rfl | rfl | rfl | rfl | rfl | rfl | rfl
          · exact ht
          · exact ht
          · exact ht
          · exact ht
          · intro hx
            have hne : ¬ i = 10 := fun e => by subst e; simp [St.upB] at hx
            have hu : St.upB fl i 10 = fl 10 := by simp [St.upB, Ne.symm hne]
            have hb : (i == 10) = false := by simpa using hne
            simp only [hb] at hR
            exact pw_own_below (ht (hu ▸ hx)) hR
          · exact ht
          · exact ht
          · exact ht
          · exact ht
          · intro hx
            have hne : ¬ i = 10 := fun e => by subst e; simp [St.upB] at hx
            have hu : St.upB fl i 10 = fl 10 := by simp [St.upB, Ne.symm hne]
            have hb : (i == 10) = false := by simpa using hne
            simp only [hb] at hR
            obtain ⟨k, e, hk⟩ := ht (hu ▸ hx)
            exact ⟨k, e, blk_below hk hR⟩
          · have hb : (i == 10) = false := by
              have : i ≠ 10 := fun e => by subst e; rw [hfi] at hfj; cases hfj
              simpa using this
            simp only [hb] at hR
            exact pw_own_below ht hR
          · have hfj := hcl 11 10 hfj (by kernel_rfl)
            have hb : (i == 10) = false := by
              have : i ≠ 10 := fun e => by subst e; rw [hfi] at hfj; cases hfj
              simpa using this
            simp only [hb] at hR
            exact ⟨ht.1, pw_own_below ht.2 hR⟩
        case h0 => exact below_drew (Below.refl _ _)
        case hB => exact fun i lf w _ _ _ _ h => h
        case hG => 
          intro i lf wa wb hi hl hd hcl h hR
          cases hb : (i == 10)
          · rw [hb] at hR
            exact below_step h hR
          · rw [hb] at hR
            exact h.trans hR
        case hend =>
          intro fl w hall hB
          rintro _ rfl _ rfl _ rfl _ rfl v4 ht4 _ rfl _ rfl _ rfl _ rfl v9 ht9 v10 ht10 v11 ht11
          simp only [List.map_cons, List.map_nil, List.nil_append, List.cons_append, List.getD_cons_zero, List.getD_cons_succ, Act.put, List.setIfInBounds_toArray, List.set_cons_zero, List.set_cons_succ]
          rw [St.withE_nil]
          go_wp2
          obtain ⟨rfl, hrow⟩ := ht11
          go_ret
          rw [HP.out]
          exact ⟨_, rfl, hrow, hB⟩
      · have hci : ¬ (i : Int) < (h : Int) := by omega
        have hcj : (h : Int) ≤ (i : Int) := by omega
        have hw2 : IntKind.i64.wrap ((i : Int) - (h : Int)) = (i : Int) - (h : Int) := by rw [IntKind.wrap_i64]; omega
        have HIH : Aside0 (∀ w, Below w1.heap.size w1 w → Calls Try.prog 11 #[.slice (some (ad.add h)) (n - h) (c - h), .int .i64 ((i : Int) - (h : Int))] w (RefPathPost (path lf pr (l.drop h) (i - h)) w)) := ⟨fun w hw => by
          have := ih (n - h) (by omega) (l.drop h) (some (ad.add h)) (c - h) (i - h) w (by rw [List.length_drop]; omega) (by omega) (by omega) (by omega) (by omega) ((HR.out.below hw).drop h) (fun s hs => HS.out s (List.mem_of_mem_drop hs))
          rw [show ((i : Int) - (h : Int)) = ((i - h : Nat) : Int) by omega]
          exact this⟩
        have HRT : Aside0 (∀ w, Below w1.heap.size w1 w → Calls Try.prog 9 #[.slice (some ad) h c] w fun e w' => e = .returned (.int .u64 (root lf pr (l.take h))) ∧ Below w.heap.size w w') := ⟨fun w hw => refRoot_any h (l.take h) (some ad) c w (by rw [List.length_take]; omega) (by omega) (by omega) (by omega) ((HR.out.below hw).take h) (fun s hs => HS.out s (List.mem_of_mem_take hs))⟩
        have HP := Aside0.mk (HPH.out hc)
        have hxl : (path lf pr (l.drop h) (i - h)).length ≤ 100000 := by
          rw [path_length lf pr (n - h) (l.drop h) (i - h) (by rw [List.length_drop]; omega)]
          have := steps_le (n - h) (i - h) (by omega)
          omega
        obtain ⟨xs, hxs⟩ : ∃ xs, path lf pr (l.drop h) (i - h) = xs := ⟨_, rfl⟩
        obtain ⟨y, hy⟩ : ∃ y, root lf pr (l.take h) = y := ⟨_, rfl⟩
        rw [hxs] at HP HIH hxl
        rw [hy] at HP HRT
        clear hxs hy ih

        go_wp2
        refine St.steadyF (n := 14) (by kernel_rfl) ([] :: [] :: [(0, 26), (1, 27)] :: [] :: [] :: [(3, 29), (4, 30)] :: [(2, 28), (5, 31)] :: [] :: [] :: [(7, 33), (8, 34)] :: [(9, 35)] :: [(10, 36)] :: [(6, 32), (11, 37)] :: [(12, 38)] :: []) (some 26 :: some 27 :: some 28 :: some 29 :: some 30 :: some 31 :: some 32 :: some 33 :: some 34 :: some 35 :: some 36 :: some 37 :: some 38 :: some 4 :: []) (by kernel_rfl) (fun lf => ((St.eqT ?c6_0x13) :: (St.eqT ?c6_1x13) :: (St.eqT ?c6_2x13) :: (St.eqT ?c6_3x13) :: (St.eqT ?c6_4x13) :: (St.eqT ?c6_5x13) :: (fun _ v w => lf 12 = false → w.ownsRow w1.heap.size 24 1 v xs.length (nums .u64 xs)) :: (St.eqT ?c6_7x13) :: (St.eqT ?c6_8x13) :: (St.eqT ?c6_9x13) :: (St.eqT ?c6_10x13) :: (fun _ v w => lf 12 = false → ∃ k, v = .slice (some ⟨k, 0, none⟩) 1 1 ∧ w.heap[k]? = some (.cells #[.int .u64 y] 24 (0, 0))) :: (fun _ v w => w.ownsRow w1.heap.size 24 1 v (xs ++ [y]).length (nums .u64 (xs ++ [y]))) :: (fun ds v w => v = ds.getD 0 undef ∧ w.ownsRow w1.heap.size 24 1 v (xs ++ [y]).length (nums .u64 (xs ++ [y]))) :: [])) (fun _ => rfl) (by rfl) (fun lf w => Below w1.heap.size w1 w) (fun i wa wb => Below (bif i == 12 then w1.heap.size else wa.heap.size) wa wb) ?hst ?h0 (fun i lf w => Below w1.heap.size w1 w) ?hB ?hG ?hop ?hend
        case hop =>
          refine ⟨?_, ?_, ?_, ?_, ?_, ?_, ?_, ?_, ?_, ?_, ?_, ?_, ?_, ?_, trivial⟩
          · intro lf hlf w hB
            simp only [St.withD]
            refine St.ob_value (v := ?_) (w' := w) (by rfl) ?_ ⟨Below.refl _ _, ?_⟩
            rotate_left
            · go_simp
              with_reducible rfl
            · rfl
          · intro lf hlf w hB
            simp only [St.withD]
            refine St.ob_value (v := ?_) (w' := w) (by rfl) ?_ ⟨Below.refl _ _, ?_⟩
            rotate_left
            · go_simp
              with_reducible rfl
            · rfl
          · intro lf hlf w hB; rintro _ ⟨_, rfl⟩ _ ⟨_, rfl⟩
            simp only [St.withD, List.nil_append, List.cons_append, Act.put, List.setIfInBounds_toArray, List.set_cons_zero, List.set_cons_succ]
            refine St.ob_value (v := ?_) (w' := w) (by rfl) ?_ ⟨Below.refl _ _, ?_⟩
            rotate_left
            · go_simp
              with_reducible rfl
            · rfl
          · intro lf hlf w hB
            simp only [St.withD]
            refine St.ob_value (v := ?_) (w' := w) (by rfl) ?_ ⟨Below.refl _ _, ?_⟩
            rotate_left
            · go_simp
              with_reducible rfl
            · rfl
          · intro lf hlf w hB
            simp only [St.withD]
            refine St.ob_value (v := ?_) (w' := w) (by rfl) ?_ ⟨Below.refl _ _, ?_⟩
            rotate_left
            · go_simp
              with_reducible rfl
            · rfl
          · intro lf hlf w hB; rintro _ ⟨_, rfl⟩ _ ⟨_, rfl⟩
            simp only [St.withD, List.nil_append, List.cons_append, Act.put, List.setIfInBounds_toArray, List.set_cons_zero, List.set_cons_succ]
            refine St.ob_value (v := ?_) (w' := w) (by rfl) ?_ ⟨Below.refl _ _, ?_⟩
            rotate_left
            · go_simp
              with_reducible rfl
            · rfl
          · intro lf hlf w hB; rintro _ ⟨_, rfl⟩ _ ⟨_, rfl⟩
            simp only [St.withD, List.nil_append, List.cons_append, Act.put, List.setIfInBounds_toArray, List.set_cons_zero, List.set_cons_succ]
            refine St.ob_call Try.func11 (by kernel_rfl) rfl #[.slice (some (ad.add h)) (n - h) (c - h), .int .i64 ((i : Int) - (h : Int))] (by rfl) rfl (by (try simp only [List.map_toArray, List.map_cons, List.map_nil]); first | done | rfl | (simp only [List.length_drop, List.length_take]; rfl)) ?_
            refine (HIH.out w hB).mono ?_
            rintro e w2 ⟨v, rfl, hown, hb2⟩
            refine ⟨_, rfl, hb2, ?_⟩
            exact fun _ => own_le hown hB.size
          · intro lf hlf w hB
            simp only [St.withD]
            refine St.ob_value (v := ?_) (w' := w) (by rfl) ?_ ⟨Below.refl _ _, ?_⟩
            rotate_left
            · go_simp
              with_reducible rfl
            · rfl
          · intro lf hlf w hB
            simp only [St.withD]
            refine St.ob_value (v := ?_) (w' := w) (by rfl) ?_ ⟨Below.refl _ _, ?_⟩
            rotate_left
            · go_simp
              with_reducible rfl
            · rfl
          · intro lf hlf w hB; rintro _ ⟨_, rfl⟩ _ ⟨_, rfl⟩
            simp only [St.withD, List.nil_append, List.cons_append, Act.put, List.setIfInBounds_toArray, List.set_cons_zero, List.set_cons_succ]
            refine St.ob_value (v := ?_) (w' := w) (by rfl) ?_ ⟨Below.refl _ _, ?_⟩
            rotate_left
            · go_simp
              with_reducible rfl
            · rfl
          · intro lf hlf w hB; rintro _ ⟨_, rfl⟩
            simp only [St.withD, List.nil_append, List.cons_append, Act.put, List.setIfInBounds_toArray, List.set_cons_zero, List.set_cons_succ]
            refine St.ob_call Try.func9 (by kernel_rfl) rfl #[.slice (some ad) h c] (by rfl) rfl (by (try simp only [List.map_toArray, List.map_cons, List.map_nil]); first | done | rfl | (simp only [List.length_drop, List.length_take]; rfl)) ?_
            refine (HRT.out w hB).mono ?_
            rintro e w2 ⟨rfl, hb2⟩
            refine ⟨_, rfl, hb2, ?_⟩
            rfl
          · intro lf hlf w hB; rintro _ ⟨_, rfl⟩
            simp only [St.withD, List.nil_append, List.cons_append, Act.put, List.setIfInBounds_toArray, List.set_cons_zero, List.set_cons_succ]
            refine St.ob_value (v := .slice (some ⟨w.heap.size, 0, none⟩) 1 1) (w' := w.alloc (.cells #[.int .u64 y] 24 (0, 0))) (by rfl) (by go_simp) ⟨below_alloc (Below.refl _ _) _, fun _ => ⟨_, rfl, blk_new w _⟩⟩
          · intro lf hlf w hB; rintro v6 ⟨ds6, ht6⟩ v11 ⟨ds11, ht11⟩
            simp only [St.withD, List.nil_append, List.cons_append, Act.put, List.setIfInBounds_toArray, List.set_cons_zero, List.set_cons_succ]
            have hlf : lf 12 = false := hlf
            obtain ⟨k, rfl, hk⟩ := ht11 hlf
            have hrow : w.ownsRow w1.heap.size 24 1 v6 xs.length (nums .u64 xs) := ht6 hlf
            obtain ⟨v1, w2, hrun, hown, hgr, _⟩ := ap_one (P := Try.prog) (t := 26) (ty := 26) Try.underlying26 info24 (by rfl) (by decide) (xs := nums .u64 xs) (by rw [nums_length]; exact hrow) hk (by rfl) hB.size (by rw [nums_length]; omega)
            rw [nums_snoc] at hown
            exact St.ob_value (v := v1) (w' := w2) (by rfl) (append_op rfl (by rfl) (by rfl) hrun) ⟨(Below.refl _ _).grown hgr hB.size (own_base hrow), by rw [nums_length] at hown; exact hown⟩
          · intro lf hlf w hB; rintro v12 ⟨ds12, ht12⟩
            simp only [St.withD, List.nil_append, List.cons_append, Act.put, List.setIfInBounds_toArray, List.set_cons_zero, List.set_cons_succ]
            refine St.ob_value (v := v12) (w' := w) (by rfl) ?_ ⟨Below.refl _ _, rfl, ht12⟩
            go_simp
        case hst =>
          intro i jx fl hi hj hfi hfj hcl dsx vx wa wb ht hR
          rcases (by omega : jx = 0 ∨ jx = 1 ∨ jx = 2 ∨ jx = 3 ∨ jx = 4 ∨ jx = 5 ∨ jx = 6 ∨ jx = 7 ∨ jx = 8 ∨ jx = 9 ∨ jx = 10 ∨ jx = 11 ∨ jx = 12 ∨ jx = 13) with rfl | rfl | rfl | rfl | rfl | rfl | rfl | rfl | rfl | rfl | rfl | rfl | rfl | rfl
          · exact ht
          · exact ht
          · exact ht
          · exact ht
          · exact ht
          · exact ht
          · intro hx
            have hne : ¬ i = 12 := fun e => by subst e; simp [St.upB] at hx
            have hu : St.upB fl i 12 = fl 12 := by simp [St.upB, Ne.symm hne]
            have hb : (i == 12) = false := by simpa using hne
            simp only [hb] at hR
            exact pw_own_below (ht (hu ▸ hx)) hR
          · exact ht
          · exact ht
          · exact ht
          · exact ht
          · intro hx
            have hne : ¬ i = 12 := fun e => by subst e; simp [St.upB] at hx
            have hu : St.upB fl i 12 = fl 12 := by simp [St.upB, Ne.symm hne]
            have hb : (i == 12) = false := by simpa using hne
            simp only [hb] at hR
            obtain ⟨k, e, hk⟩ := ht (hu ▸ hx)
            exact ⟨k, e, blk_below hk hR⟩
          · have hb : (i == 12) = false := by
              have : i ≠ 12 := fun e => by subst e; rw [hfi] at hfj; cases hfj
              simpa using this
            simp only [hb] at hR
            exact pw_own_below ht hR
          · have hfj := hcl 13 12 hfj (by kernel_rfl)
            have hb : (i == 12) = false := by
              have : i ≠ 12 := fun e => by subst e; rw [hfi] at hfj; cases hfj
              simpa using this
            simp only [hb] at hR
            exact ⟨ht.1, pw_own_below ht.2 hR⟩
        case h0 => exact below_drew (Below.refl _ _)
        case hB => exact fun i lf w _ _ _ _ h => h
        case hG => 
          intro i lf wa wb hi hl hd hcl h hR
          cases hb : (i == 12)
          · rw [hb] at hR
            exact below_step h hR
          · rw [hb] at hR
            exact h.trans hR
        case hend =>
          intro fl w hall hB
          rintro _ rfl _ rfl _ rfl _ rfl _ rfl _ rfl v6 ht6 _ rfl _ rfl _ rfl _ rfl v11 ht11 v12 ht12 v13 ht13
          simp only [List.map_cons, List.map_nil, List.nil_append, List.cons_append, List.getD_cons_zero, List.getD_cons_succ, Act.put, List.setIfInBounds_toArray, List.set_cons_zero, List.set_cons_succ]
          rw [St.withE_nil]
          go_wp2
          obtain ⟨rfl, hrow⟩ := ht13
          go_ret
          rw [HP.out]
          exact ⟨_, rfl, hrow, hB⟩
    · obtain rfl : n = 1 := by omega
      rw [path_one lf pr l i (by omega)]
      clear ih HR HS
      go_enter Try.func11, Try.ntmps11
      go_wp2
      go_ret
      exact ⟨.slice none 0 0, rfl, ⟨rfl, .inl ⟨rfl, rfl⟩⟩, Below.refl _ _⟩
end Go.Proofs.Ytfafekejjnpbcaa
