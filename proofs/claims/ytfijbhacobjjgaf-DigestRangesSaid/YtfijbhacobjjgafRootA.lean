/- Taken over from chapter 38's text RootA. -/
import Derived.Test.YtfijbhacobjjgafProg
import Derived.Test.YtfijbhacobjjgafVals
import Derived.Test.YtfijbhacobjjgafWLast
import Derived.Test.YtfijbhacobjjgafWMore
import Derived.RegionTactic
import Derived.ChangeAlike
import Derived.BigRegion
import Derived.WalkLawsBesides
import Derived.WalkSpells
import Derived.Deep.LoopGhost
import Derived.Deep.QuietTactic
import Derived.BigQuiet
import Derived.OwnWalk
import Derived.Test.YtfijbhacobjjgafHalfA
import Derived.Test.YtfijbhacobjjgafSteadyT
import Derived.Test.YtfijbhacobjjgafStrs
import Derived.OpenShut
import Derived.StillTailTactics
namespace Go.Proofs.Ytfijbhacobjjgaf
open Go.RowKit Go.Proofs.YtfijbhacobjjgafW.PrintWords Go.Proofs.YtfijbhacobjjgafW.PrintLast Go.Proofs.YtfijbhacobjjgafW.PrintMore Go.Proofs.Ytfijbhacobjjgaf.Fr
set_option linter.unusedVariables false
set_option linter.unusedSimpArgs false
attribute [local go_sem] max2_int min2_int max_two min_two
open Pl
theorem endS_in (s : Int × Int) : 0 ≤ endS s ∧ endS s < 18446744073709551616 := by
  have h := wf_bits .xor .u64 (IntKind.u64.wrap (IntKind.u64.wrap (s.1 + s.2) * 13787848793156543929)) (IntKind.u64.wrap (IntKind.u64.wrap (s.1 + s.2) * 13787848793156543929) / 4294967296)
  have e : endS s = bits .xor .u64 (IntKind.u64.wrap (IntKind.u64.wrap (s.1 + s.2) * 13787848793156543929)) (IntKind.u64.wrap (IntKind.u64.wrap (s.1 + s.2) * 13787848793156543929) / 4294967296) := rfl
  rw [← e] at h
  generalize endS s = z at h
  simp [Lit.wf, IntKind.min, IntKind.max, IntKind.signed, IntKind.bits] at h
  omega
theorem root_in (l : List ByteArray) : 0 ≤ root lf pr l ∧ root lf pr l < 18446744073709551616 := by
  by_cases h : 2 ≤ l.length
  · rw [root_two lf pr l h]; exact endS_in _
  · match l with
    | [] => rw [root_nil]; decide
    | [s] => rw [root_one]; exact endS_in _
    | _ :: _ :: _ => simp at h
set_option maxRecDepth 100000 in
theorem root_any : ∀ (n : Nat) (l : List ByteArray) (A : Option Addr) (c : Nat) (w0 : World), l.length = n → n ≤ c → c ≤ 9223372036854775807 → n ≤ 100000 → RdS w0 A l → (∀ s ∈ l, s.size ≤ 140737488355328) → Calls Try.prog 20 #[.slice A n c] w0 fun e w' => e = .returned (.int .u64 (root lf pr l)) ∧ Below w0.heap.size w0 w' := by
  intro n
  induction n using Nat.strongRecOn with
  | _ n ih =>
    intro l A c w0 hl hcap hc0 hn HR HS
    match n, l, hl with
    | 0, [], _ =>
      rw [root_nil]
      go_enter Try.func20, Try.ntmps20
      go_wp2
      go_ret
      exact ⟨rfl, Below.refl _ _⟩
    | 1, [s], _ =>
      obtain ⟨ad, rfl, hc⟩ := HR 0 (by simp)
      have hc : w0.cell? ad = some (.string s) := by rw [show ad.add 0 = ad by simp [Addr.add]] at hc; exact hc
      rw [root_one]
      have hss := HS s (by simp)
      clear HR HS ih
      go_enter Try.func20, Try.ntmps20
      go_wp2_with fail
      refine (leaf_any s w0 hss).mono ?_
      rintro e w1 ⟨rfl, hb⟩
      go_wp2
      go_ret
      exact ⟨rfl, hb⟩
    | n + 2, l, hl =>
      obtain ⟨m, hm⟩ : ∃ m, n + 2 = m := ⟨_, rfl⟩
      rw [hm] at ih hl hcap hn
      rw [hm]
      have hm2 : 2 ≤ m := by omega
      clear hm n
      have HR := Aside0.mk HR
      have HS := Aside0.mk HS
      obtain ⟨ad, rfl, _⟩ := HR.out 0 (by omega)
      have HE := Aside0.mk (root_two lf pr l (by omega))
      rw [hl] at HE
      have HH : Aside0 (half m < m ∧ 0 < half m) := ⟨half_lt hm2, half_pos m⟩
      have HF := Aside0.mk (half_any m hm2 (by omega) w0)
      obtain ⟨h, hh⟩ : ∃ h, half m = h := ⟨_, rfl⟩
      rw [hh] at HE HH
      have HL := Aside0.mk hl
      have hh1 := HH.out.1
      have hh2 := HH.out.2
      have ha : ¬ (m : Int) = 0 := by omega
      have hb : ¬ (m : Int) = 1 := by omega
      have k1 : h ≤ c := by omega
      have k2 : h ≤ m := by omega
      have k3 : ¬ c = h := by omega
      go_enter Try.func20, Try.ntmps20
      go_wp2_with fail
      refine (half_any m hm2 (by omega) w0).mono ?_
      rintro e w1 ⟨rfl, rfl⟩
      rw [hh]
      clear hh
      go_wp2
      refine St.steadyR (n := 10) (by kernel_rfl) ([] :: [] :: [(0, 17), (1, 18)] :: [(2, 19)] :: [] :: [] :: [(4, 21), (5, 22)] :: [(6, 23)] :: [(3, 20), (7, 24)] :: [(8, 25)] :: []) (some 17 :: some 18 :: some 19 :: some 20 :: some 21 :: some 22 :: some 23 :: some 24 :: some 25 :: some 2 :: []) (by kernel_rfl) ((St.eqT ?c7_0) :: (St.eqT ?c7_1) :: (St.eqT ?c7_2) :: (St.eqT ?c7_3) :: (St.eqT ?c7_4) :: (St.eqT ?c7_5) :: (St.eqT ?c7_6) :: (St.eqT ?c7_7) :: (St.eqT ?c7_8) :: (St.eqT ?c7_9) :: []) rfl (by rfl) (fun w' => Below w1.heap.size w1 w') (fun w w' => Below w.heap.size w w') ?hst ?h0 ?hB ?hop ?hend
      case hop =>
        refine ⟨?_, ?_, ?_, ?_, ?_, ?_, ?_, ?_, ?_, ?_, trivial⟩
        · intro w hB
          simp only [St.withD]
          refine St.ob_value (v := ?_) (w' := w) (by rfl) ?_ ⟨Below.refl _ _, ?_⟩
          rotate_left
          · go_simp
            with_reducible rfl
          · rfl
        · intro w hB
          simp only [St.withD]
          refine St.ob_value (v := ?_) (w' := w) (by rfl) ?_ ⟨Below.refl _ _, ?_⟩
          rotate_left
          · go_simp
            with_reducible rfl
          · rfl
        · intro w hB; rintro _ ⟨_, rfl⟩ _ ⟨_, rfl⟩
          simp only [St.withD, List.nil_append, List.cons_append, Act.put, List.setIfInBounds_toArray, List.set_cons_zero, List.set_cons_succ]
          refine St.ob_value (v := ?_) (w' := w) (by rfl) ?_ ⟨Below.refl _ _, ?_⟩
          rotate_left
          · go_simp
            with_reducible rfl
          · rfl
        · intro w hB; rintro _ ⟨_, rfl⟩
          simp only [St.withD, List.nil_append, List.cons_append, Act.put, List.setIfInBounds_toArray, List.set_cons_zero, List.set_cons_succ]
          refine St.ob_call Try.func20 (by kernel_rfl) rfl #[.slice (some ad) h c] (by rfl) rfl (by (try simp only [List.map_toArray, List.map_cons, List.map_nil]); first | done | rfl | (simp only [List.length_drop, List.length_take]; rfl)) ?_
          refine (ih h HH.out.1 (l.take h) (some ad) c w (by rw [List.length_take]; omega) (by omega) hc0 (by omega) ((HR.out.below hB).take h) (fun s hs => HS.out s (List.mem_of_mem_take hs))).mono ?_
          rintro e w1 ⟨rfl, hb1⟩
          refine ⟨_, rfl, hb1, ?_⟩
          rfl
        · intro w hB
          simp only [St.withD]
          refine St.ob_value (v := ?_) (w' := w) (by rfl) ?_ ⟨Below.refl _ _, ?_⟩
          rotate_left
          · go_simp
            with_reducible rfl
          · rfl
        · intro w hB
          simp only [St.withD]
          refine St.ob_value (v := ?_) (w' := w) (by rfl) ?_ ⟨Below.refl _ _, ?_⟩
          rotate_left
          · go_simp
            with_reducible rfl
          · rfl
        · intro w hB; rintro _ ⟨_, rfl⟩ _ ⟨_, rfl⟩
          simp only [St.withD, List.nil_append, List.cons_append, Act.put, List.setIfInBounds_toArray, List.set_cons_zero, List.set_cons_succ]
          refine St.ob_value (v := ?_) (w' := w) (by rfl) ?_ ⟨Below.refl _ _, ?_⟩
          rotate_left
          · go_simp
            with_reducible rfl
          · rfl
        · intro w hB; rintro _ ⟨_, rfl⟩
          simp only [St.withD, List.nil_append, List.cons_append, Act.put, List.setIfInBounds_toArray, List.set_cons_zero, List.set_cons_succ]
          refine St.ob_call Try.func20 (by kernel_rfl) rfl #[.slice (some (ad.add h)) (m - h) (c - h)] (by rfl) rfl (by (try simp only [List.map_toArray, List.map_cons, List.map_nil]); first | done | rfl | (simp only [List.length_drop, List.length_take]; rfl)) ?_
          refine (ih (m - h) (by omega) (l.drop h) (some (ad.add h)) (c - h) w (by rw [List.length_drop]; omega) (by omega) (by omega) (by omega) ((HR.out.below hB).drop h) (fun s hs => HS.out s (List.mem_of_mem_drop hs))).mono ?_
          rintro e w1 ⟨rfl, hb1⟩
          refine ⟨_, rfl, hb1, ?_⟩
          rfl
        · intro w hB; rintro _ ⟨_, rfl⟩ _ ⟨_, rfl⟩
          simp only [St.withD, List.nil_append, List.cons_append, Act.put, List.setIfInBounds_toArray, List.set_cons_zero, List.set_cons_succ]
          refine St.ob_call Try.func25 (by kernel_rfl) rfl #[.int .u64 (root lf pr (l.take h)), .int .u64 (root lf pr (l.drop h))] (by rfl) rfl (by (try simp only [List.map_toArray, List.map_cons, List.map_nil]); first | done | rfl | (simp only [List.length_drop, List.length_take]; rfl)) ?_
          refine (pair_any _ _ (root_in _).1 (root_in _).2 (root_in _).1 (root_in _).2 w).mono ?_
          rintro e w1 ⟨rfl, hb1⟩
          refine ⟨_, rfl, hb1, ?_⟩
          rfl
        · intro w hB; rintro _ ⟨_, rfl⟩
          simp only [St.withD, List.nil_append, List.cons_append, Act.put, List.setIfInBounds_toArray, List.set_cons_zero, List.set_cons_succ]
          refine St.ob_value (v := ?_) (w' := w) (by rfl) ?_ ⟨Below.refl _ _, ?_⟩
          rotate_left
          · go_simp
            with_reducible rfl
          · rfl
      case hst => exact ⟨St.eqT_st, St.eqT_st, St.eqT_st, St.eqT_st, St.eqT_st, St.eqT_st, St.eqT_st, St.eqT_st, St.eqT_st, St.eqT_st, trivial⟩
      case h0 => exact below_drew (Below.refl _ _)
      case hB => exact fun w w' h k => below_step h k
      case hend =>
        intro w hB
        rintro _ rfl _ rfl _ rfl _ rfl _ rfl _ rfl _ rfl _ rfl _ rfl _ rfl
        simp only [List.map_cons, List.map_nil, List.nil_append, List.cons_append, List.getD_cons_zero, List.getD_cons_succ, Act.put, List.setIfInBounds_toArray, List.set_cons_zero, List.set_cons_succ]
        rw [St.withE_nil]
        go_wp2
        go_ret
        rw [HE.out]
        exact ⟨rfl, hB⟩
set_option maxRecDepth 100000 in
theorem refRoot_any : ∀ (n : Nat) (l : List ByteArray) (A : Option Addr) (c : Nat) (w0 : World), l.length = n → n ≤ c → c ≤ 9223372036854775807 → n ≤ 100000 → RdS w0 A l → (∀ s ∈ l, s.size ≤ 140737488355328) → Calls Try.prog 13 #[.slice A n c] w0 fun e w' => e = .returned (.int .u64 (root lf pr l)) ∧ Below w0.heap.size w0 w' := by
  intro n
  induction n using Nat.strongRecOn with
  | _ n ih =>
    intro l A c w0 hl hcap hc0 hn HR HS
    match n, l, hl with
    | 0, [], _ =>
      rw [root_nil]
      go_enter Try.func13, Try.ntmps13
      go_wp2
      go_ret
      exact ⟨rfl, Below.refl _ _⟩
    | 1, [s], _ =>
      obtain ⟨ad, rfl, hc⟩ := HR 0 (by simp)
      have hc : w0.cell? ad = some (.string s) := by rw [show ad.add 0 = ad by simp [Addr.add]] at hc; exact hc
      rw [root_one]
      have hss := HS s (by simp)
      clear HR HS ih
      go_enter Try.func13, Try.ntmps13
      go_wp2_with fail
      refine (refLeaf_any s w0 hss).mono ?_
      rintro e w1 ⟨rfl, hb⟩
      go_wp2
      go_ret
      exact ⟨rfl, hb ▸ Below.refl _ _⟩
    | n + 2, l, hl =>
      obtain ⟨m, hm⟩ : ∃ m, n + 2 = m := ⟨_, rfl⟩
      rw [hm] at ih hl hcap hn
      rw [hm]
      have hm2 : 2 ≤ m := by omega
      clear hm n
      have HR := Aside0.mk HR
      have HS := Aside0.mk HS
      obtain ⟨ad, rfl, _⟩ := HR.out 0 (by omega)
      have HE := Aside0.mk (root_two lf pr l (by omega))
      rw [hl] at HE
      have HH : Aside0 (half m < m ∧ 0 < half m) := ⟨half_lt hm2, half_pos m⟩
      have HF := Aside0.mk (half_any m hm2 (by omega) w0)
      obtain ⟨h, hh⟩ : ∃ h, half m = h := ⟨_, rfl⟩
      rw [hh] at HE HH
      have HL := Aside0.mk hl
      have hh1 := HH.out.1
      have hh2 := HH.out.2
      have ha : ¬ (m : Int) = 0 := by omega
      have hb : ¬ (m : Int) = 1 := by omega
      have k1 : h ≤ c := by omega
      have k2 : h ≤ m := by omega
      have k3 : ¬ c = h := by omega
      go_enter Try.func13, Try.ntmps13
      go_wp2_with fail
      refine (refHalf_any m hm2 (by omega) w0).mono ?_
      rintro e w1 ⟨rfl, rfl⟩
      rw [hh]
      clear hh
      go_wp2
      refine St.steadyR (n := 10) (by kernel_rfl) ([] :: [] :: [(0, 17), (1, 18)] :: [(2, 19)] :: [] :: [] :: [(4, 21), (5, 22)] :: [(6, 23)] :: [(3, 20), (7, 24)] :: [(8, 25)] :: []) (some 17 :: some 18 :: some 19 :: some 20 :: some 21 :: some 22 :: some 23 :: some 24 :: some 25 :: some 2 :: []) (by kernel_rfl) ((St.eqT ?c6_0x2) :: (St.eqT ?c6_1x2) :: (St.eqT ?c6_2x2) :: (St.eqT ?c6_3x2) :: (St.eqT ?c6_4x2) :: (St.eqT ?c6_5x2) :: (St.eqT ?c6_6x2) :: (St.eqT ?c6_7x2) :: (St.eqT ?c6_8x2) :: (St.eqT ?c6_9x2) :: []) rfl (by rfl) (fun w' => Below w1.heap.size w1 w') (fun w w' => Below w.heap.size w w') ?hst ?h0 ?hB ?hop ?hend
      case hop =>
        refine ⟨?_, ?_, ?_, ?_, ?_, ?_, ?_, ?_, ?_, ?_, trivial⟩
        · intro w hB
          simp only [St.withD]
          refine St.ob_value (v := ?_) (w' := w) (by rfl) ?_ ⟨Below.refl _ _, ?_⟩
          rotate_left
          · go_simp
            with_reducible rfl
          · rfl
        · intro w hB
          simp only [St.withD]
          refine St.ob_value (v := ?_) (w' := w) (by rfl) ?_ ⟨Below.refl _ _, ?_⟩
          rotate_left
          · go_simp
            with_reducible rfl
          · rfl
        · intro w hB; rintro _ ⟨_, rfl⟩ _ ⟨_, rfl⟩
          simp only [St.withD, List.nil_append, List.cons_append, Act.put, List.setIfInBounds_toArray, List.set_cons_zero, List.set_cons_succ]
          refine St.ob_value (v := ?_) (w' := w) (by rfl) ?_ ⟨Below.refl _ _, ?_⟩
          rotate_left
          · go_simp
            with_reducible rfl
          · rfl
        · intro w hB; rintro _ ⟨_, rfl⟩
          simp only [St.withD, List.nil_append, List.cons_append, Act.put, List.setIfInBounds_toArray, List.set_cons_zero, List.set_cons_succ]
          refine St.ob_call Try.func13 (by kernel_rfl) rfl #[.slice (some ad) h c] (by rfl) rfl (by (try simp only [List.map_toArray, List.map_cons, List.map_nil]); first | done | rfl | (simp only [List.length_drop, List.length_take]; rfl)) ?_
          refine (ih h HH.out.1 (l.take h) (some ad) c w (by rw [List.length_take]; omega) (by omega) hc0 (by omega) ((HR.out.below hB).take h) (fun s hs => HS.out s (List.mem_of_mem_take hs))).mono ?_
          rintro e w1 ⟨rfl, hb1⟩
          refine ⟨_, rfl, hb1, ?_⟩
          rfl
        · intro w hB
          simp only [St.withD]
          refine St.ob_value (v := ?_) (w' := w) (by rfl) ?_ ⟨Below.refl _ _, ?_⟩
          rotate_left
          · go_simp
            with_reducible rfl
          · rfl
        · intro w hB
          simp only [St.withD]
          refine St.ob_value (v := ?_) (w' := w) (by rfl) ?_ ⟨Below.refl _ _, ?_⟩
          rotate_left
          · go_simp
            with_reducible rfl
          · rfl
        · intro w hB; rintro _ ⟨_, rfl⟩ _ ⟨_, rfl⟩
          simp only [St.withD, List.nil_append, List.cons_append, Act.put, List.setIfInBounds_toArray, List.set_cons_zero, List.set_cons_succ]
          refine St.ob_value (v := ?_) (w' := w) (by rfl) ?_ ⟨Below.refl _ _, ?_⟩
          rotate_left
          · go_simp
            with_reducible rfl
          · rfl
        · intro w hB; rintro _ ⟨_, rfl⟩
          simp only [St.withD, List.nil_append, List.cons_append, Act.put, List.setIfInBounds_toArray, List.set_cons_zero, List.set_cons_succ]
          refine St.ob_call Try.func13 (by kernel_rfl) rfl #[.slice (some (ad.add h)) (m - h) (c - h)] (by rfl) rfl (by (try simp only [List.map_toArray, List.map_cons, List.map_nil]); first | done | rfl | (simp only [List.length_drop, List.length_take]; rfl)) ?_
          refine (ih (m - h) (by omega) (l.drop h) (some (ad.add h)) (c - h) w (by rw [List.length_drop]; omega) (by omega) (by omega) (by omega) ((HR.out.below hB).drop h) (fun s hs => HS.out s (List.mem_of_mem_drop hs))).mono ?_
          rintro e w1 ⟨rfl, hb1⟩
          refine ⟨_, rfl, hb1, ?_⟩
          rfl
        · intro w hB; rintro _ ⟨_, rfl⟩ _ ⟨_, rfl⟩
          simp only [St.withD, List.nil_append, List.cons_append, Act.put, List.setIfInBounds_toArray, List.set_cons_zero, List.set_cons_succ]
          refine St.ob_call Try.func22 (by kernel_rfl) rfl #[.int .u64 (root lf pr (l.take h)), .int .u64 (root lf pr (l.drop h))] (by rfl) rfl (by (try simp only [List.map_toArray, List.map_cons, List.map_nil]); first | done | rfl | (simp only [List.length_drop, List.length_take]; rfl)) ?_
          refine (refPair_any _ _ (root_in _).1 (root_in _).2 (root_in _).1 (root_in _).2 w).mono ?_
          rintro e w1 ⟨rfl, hb1⟩
          refine ⟨_, rfl, hb1, ?_⟩
          rfl
        · intro w hB; rintro _ ⟨_, rfl⟩
          simp only [St.withD, List.nil_append, List.cons_append, Act.put, List.setIfInBounds_toArray, List.set_cons_zero, List.set_cons_succ]
          refine St.ob_value (v := ?_) (w' := w) (by rfl) ?_ ⟨Below.refl _ _, ?_⟩
          rotate_left
          · go_simp
            with_reducible rfl
          · rfl
      case hst => exact ⟨St.eqT_st, St.eqT_st, St.eqT_st, St.eqT_st, St.eqT_st, St.eqT_st, St.eqT_st, St.eqT_st, St.eqT_st, St.eqT_st, trivial⟩
      case h0 => exact below_drew (Below.refl _ _)
      case hB => exact fun w w' h k => below_step h k
      case hend =>
        intro w hB
        rintro _ rfl _ rfl _ rfl _ rfl _ rfl _ rfl _ rfl _ rfl _ rfl _ rfl
        simp only [List.map_cons, List.map_nil, List.nil_append, List.cons_append, List.getD_cons_zero, List.getD_cons_succ, Act.put, List.setIfInBounds_toArray, List.set_cons_zero, List.set_cons_succ]
        rw [St.withE_nil]
        go_wp2
        go_ret
        rw [HE.out]
        exact ⟨rfl, hB⟩

end Go.Proofs.Ytfijbhacobjjgaf
