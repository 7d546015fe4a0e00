/- The document's Put. -/
import Derived.Test.YtfijbhacobjjgagDocP
namespace Go.Proofs.Ytfijbhacobjjgag
open Go.RowKit Go.Proofs.YtfijbhacobjjgagW.PrintWords Go.Proofs.YtfijbhacobjjgagW.PrintLast Go.Proofs.YtfijbhacobjjgagW.PrintMore Go.Proofs.Ytfijbhacobjjgag.Fr
set_option linter.unusedVariables false
set_option linter.unusedSimpArgs false
attribute [local go_sem] max2_int min2_int max_two min_two

open Pl Hp
theorem info3 : (Try.prog.info? 3).map (fun i => (i.zero, i.size, i.bytes)) = some (some (.int .i64 0), 1, 8) := by kernel_rfl
theorem RdC.below' {w w1 : World} {p : Option (Nat × Nat)} {cs : List Value} (h : RdC w p cs) (hb : Below w.heap.size w w1) : RdC w1 p cs := h.below hb
theorem RdC.of_blk {w : World} {q : Nat} {cs : List Value} {t : TypeId} (h : w.heap[q]? = some (.cells cs.toArray t (0, 0))) : RdC w (some (q, 0)) cs := fun j u hu => ⟨q, 0, rfl, by rw [blk_cell h, Nat.zero_add]; simpa using hu⟩
section
variable {B b : Nat} {w w1 : World} {pa pt : Option (Nat × Nat)} {ca ct : Nat} {now : Int} {D : List E} {S : Nat → Prop}
def RPutPost (B b : Nat) (now : Int) (D2 : List E) (W : World) (e : Ending) (w' : World) : Prop :=
  ∃ pa1 pt1 ca1 ct1, e = .returned (.bool true) ∧ DS B w' b pa1 pt1 ca1 ct1 now D2 ∧ Ch (fun i => i = b) W w' ∧ (∀ q, pa1 = some q → W.heap.size ≤ q.1) ∧ ∀ q, pt1 = some q → W.heap.size ≤ q.1
theorem rput_full (after : Int) (a : Ac) (w0 : World) (h : DS B w0 b pa pt ca ct now D) (hl : 1000 ≤ D.length) : Calls Try.prog 12 #[.pointer (some ⟨b, 0, none⟩), .int .i64 after, actV a] w0 fun e w' => e = .returned (.bool false) ∧ Below w0.heap.size w0 w' := by
  have hal : Below w0.heap.size w0 (w0.alloc (.cells #[.int .i64 a.k, .int .i64 a.nd, .int .i64 a.n, .bool a.up, .string a.s] 28)) := below_alloc (Below.refl _ _) _
  have c1 : (w0.alloc (.cells #[.int .i64 a.k, .int .i64 a.nd, .int .i64 a.n, .bool a.up, .string a.s] 28)).cell? ⟨b, 1, none⟩ = some (.slice (ap pa) D.length ca) := (blk_cell (blk_below h.box hal) 1).trans rfl
  have hl2 : (1000 : Int) ≤ D.length := by omega
  clear h
  unfold actV
  go_enter Try.func12, Try.ntmps12
  go_wp2
  go_ret
  exact ⟨rfl, hal⟩
set_option maxRecDepth 100000 in
set_option maxHeartbeats 8000000 in
theorem rput_any (after : Int) (a : Ac) (ord : Int) (w0 : World) (h : DS B w0 b pa pt ca ct now D) (hB : B ≤ w0.heap.size) (hl : D.length < 1000) (hn0 : 0 ≤ now) (hn1 : now ≤ 1099511627776) :
    Calls Try.prog 12 #[.pointer (some ⟨b, 0, none⟩), .int .i64 after, actV a] w0 (RPutPost B b now (ins D ⟨putT now after, ord, a⟩) w0) := by
  obtain ⟨n, hn⟩ : ∃ n, D.length = n := ⟨_, rfl⟩
  have HN := Aside0.mk hn
  have hal : Below w0.heap.size w0 (w0.alloc (.cells #[.int .i64 a.k, .int .i64 a.nd, .int .i64 a.n, .bool a.up, .string a.s] 28)) := below_alloc (Below.refl _ _) _
  have h1 := h.below hal
  have hbx := h1.box
  rw [hn] at hbx hl
  have c1 : (w0.alloc (.cells #[.int .i64 a.k, .int .i64 a.nd, .int .i64 a.n, .bool a.up, .string a.s] 28)).cell? ⟨b, 1, none⟩ = some (.slice (ap pa) n ca) := (blk_cell hbx 1).trans rfl
  have hl2 : ¬ (1000 : Int) ≤ n := by omega
  have HX5 : Aside0 ((w0.alloc (.cells #[.int .i64 a.k, .int .i64 a.nd, .int .i64 a.n, .bool a.up, .string a.s] 28)).heap[w0.heap.size]? = some (.cells #[.int .i64 a.k, .int .i64 a.nd, .int .i64 a.n, .bool a.up, .string a.s] 28 (0, 0))) := ⟨blk_new _ _⟩
  have H := Aside0.mk h1
  have HBX0 := Aside0.mk hbx
  have HB0 := Aside0.mk (And.intro hal hB)
  have HBX0L : Aside0 (b < w0.heap.size) := ⟨blk_lt h.box⟩
  have HL := Aside0.mk hl
  obtain ⟨tm, htm⟩ : ∃ tm, putT now after = tm := ⟨_, rfl⟩
  have HTM := Aside0.mk htm
  have HBR : Aside0 (0 ≤ brI after 0 1073741824 ∧ brI after 0 1073741824 ≤ 1073741824) := ⟨by unfold brI; omega⟩
  rw [htm]
  obtain ⟨D2, hD2⟩ : ∃ D2, ins D ⟨tm, ord, a⟩ = D2 := ⟨_, rfl⟩
  have HDD := Aside0.mk hD2
  rw [hD2]
  clear h hal h1 hn htm hB hbx hl hD2
  unfold actV
  go_enter Try.func12, Try.ntmps12
  go_upto_region 3 with fail
  generalize w0.alloc (.cells #[.int .i64 a.k, .int .i64 a.nd, .int .i64 a.n, .bool a.up, .string a.s] 28) = W0 at HX5 H HBX0 HB0 ⊢
  obtain ⟨x5, hx5⟩ : ∃ x5, w0.heap.size = x5 := ⟨_, rfl⟩
  rw [hx5] at HX5 ⊢
  clear c1 hx5
  go_wp2
  obtain ⟨wd, hwd⟩ : ∃ wd, W0.drew = wd := ⟨_, rfl⟩
  have HS : Aside0 (wd.heap[b]? = some (.cells #[.int .i64 now, .slice (ap pa) n ca, .slice (ap pt) n ct] 38 (0, 0))) := ⟨hwd ▸ HBX0.out⟩
  have HD : Aside0 (DS B wd b pa pt ca ct now D ∧ wd.heap[x5]? = some (.cells #[.int .i64 a.k, .int .i64 a.nd, .int .i64 a.n, .bool a.up, .string a.s] 28 (0, 0)) ∧ Below w0.heap.size w0 wd) := ⟨hwd ▸ ⟨H.out.below (below_drew (Below.refl _ _)), HX5.out, below_drew HB0.out.1⟩⟩
  clear H HBX0 HX5
  refine St.steadyR (n := 9) (by kernel_rfl) ([] :: [(0, 15)] :: [(1, 16)] :: [(2, 17)] :: [] :: [(4, 19)] :: [(3, 18), (5, 20)] :: [(6, 21)] :: [(7, 22)] :: []) (some 15 :: some 16 :: some 17 :: some 18 :: some 19 :: some 20 :: some 21 :: some 22 :: some 7 :: []) (by kernel_rfl) ((St.eqT ?c3_0x10) :: (St.eqT ?c3_1x10) :: (St.eqT ?c3_2x10) :: (St.eqT ?c3_3x10) :: (St.eqT ?c3_4x10) :: (St.eqT ?c3_5x10) :: (St.eqT (.int .i64 (now + brI after 0 1073741824))) :: (St.eqT ?c3_7x10) :: (St.eqT ?c3_8x10) :: []) rfl (by rfl) (fun w' => w' = wd) (fun w w' => w = w') ?hst ?h0 ?hB ?hop ?hend
  case hop =>
    refine ⟨?_, ?_, ?_, ?_, ?_, ?_, ?_, ?_, ?_, trivial⟩
    · intro w hB
      simp only [St.withD]
      refine St.ob_value (v := ?_) (w' := w) (by rfl) ?_ ⟨rfl, ?_⟩
      rotate_left
      · go_simp
        with_reducible rfl
      · rfl
    · intro w hB; rintro _ ⟨_, rfl⟩
      simp only [St.withD, List.nil_append, List.cons_append, Act.put, List.setIfInBounds_toArray, List.set_cons_zero, List.set_cons_succ]
      refine St.ob_value (v := ?_) (w' := w) (by rfl) ?_ ⟨rfl, ?_⟩
      rotate_left
      · go_simp
        with_reducible rfl
      · rfl
    · intro w hB; rintro _ ⟨_, rfl⟩
      simp only [St.withD, List.nil_append, List.cons_append, Act.put, List.setIfInBounds_toArray, List.set_cons_zero, List.set_cons_succ]
      refine St.ob_value (v := ?_) (w' := w) (by rfl) ?_ ⟨rfl, ?_⟩
      rotate_left
      · go_simp
        with_reducible rfl
      · rfl
    · intro w hB; rintro _ ⟨_, rfl⟩
      simp only [St.withD, List.nil_append, List.cons_append, Act.put, List.setIfInBounds_toArray, List.set_cons_zero, List.set_cons_succ]
      have hs := HS.out
      rw [← hB] at hs
      have c0 : w.cell? ⟨b, 0, none⟩ = some (.int .i64 now) := (blk_cell hs 0).trans rfl
      clear hB
      refine St.ob_value (v := ?_) (w' := w) (by rfl) ?_ ⟨rfl, ?_⟩
      rotate_left
      · go_simp
        with_reducible rfl
      · rfl
    · intro w hB
      simp only [St.withD]
      refine St.ob_value (v := ?_) (w' := w) (by rfl) ?_ ⟨rfl, ?_⟩
      rotate_left
      · go_simp
        with_reducible rfl
      · rfl
    · intro w hB; rintro _ ⟨_, rfl⟩
      simp only [St.withD, List.nil_append, List.cons_append, Act.put, List.setIfInBounds_toArray, List.set_cons_zero, List.set_cons_succ]
      refine St.ob_call Try.func25 (by kernel_rfl) rfl #[.int .i64 after, .int .i64 0, .int .i64 1073741824] (by rfl) rfl (by (try simp only [List.map_toArray, List.map_cons, List.map_nil]); first | done | rfl | (simp only [List.length_drop, List.length_take]; rfl)) ?_
      refine (bring_any after 0 1073741824 (by decide) w).mono ?_
      rintro e w1 ⟨rfl, rfl⟩
      refine ⟨_, rfl, rfl, ?_⟩
      rfl
    · intro w hB; rintro _ ⟨_, rfl⟩ _ ⟨_, rfl⟩
      simp only [St.withD, List.nil_append, List.cons_append, Act.put, List.setIfInBounds_toArray, List.set_cons_zero, List.set_cons_succ]
      refine St.ob_value (v := .int .i64 (now + brI after 0 1073741824)) (w' := w) (by rfl) ?_ ⟨rfl, rfl⟩
      have hwa : IntKind.i64.wrap (now + brI after 0 1073741824) = now + brI after 0 1073741824 := by have := HBR.out; rw [IntKind.wrap_i64]; omega
      clear hB
      go_simp
    · intro w hB; rintro _ ⟨_, rfl⟩
      simp only [St.withD, List.nil_append, List.cons_append, Act.put, List.setIfInBounds_toArray, List.set_cons_zero, List.set_cons_succ]
      refine St.ob_call Try.func25 (by kernel_rfl) rfl #[.int .i64 (now + brI after 0 1073741824), .int .i64 0, .int .i64 1099511627776] (by rfl) rfl (by (try simp only [List.map_toArray, List.map_cons, List.map_nil]); first | done | rfl | (simp only [List.length_drop, List.length_take]; rfl)) ?_
      refine (bring_any (now + brI after 0 1073741824) 0 1099511627776 (by decide) w).mono ?_
      rintro e w1 ⟨rfl, rfl⟩
      refine ⟨_, rfl, rfl, ?_⟩
      rfl
    · intro w hB; rintro _ ⟨_, rfl⟩
      simp only [St.withD, List.nil_append, List.cons_append, Act.put, List.setIfInBounds_toArray, List.set_cons_zero, List.set_cons_succ]
      refine St.ob_value (v := ?_) (w' := w) (by rfl) ?_ ⟨rfl, ?_⟩
      rotate_left
      · go_simp
        with_reducible rfl
      · rfl
  case hst => exact ⟨St.eqT_st, St.eqT_st, St.eqT_st, St.eqT_st, St.eqT_st, St.eqT_st, St.eqT_st, St.eqT_st, St.eqT_st, trivial⟩
  case h0 => exact hwd
  case hB => exact fun w w' h e => e ▸ h
  case hend =>
    intro w hB
    rintro _ rfl _ rfl _ rfl _ rfl _ rfl _ rfl _ rfl _ rfl _ rfl
    simp only [List.map_cons, List.map_nil, List.nil_append, List.cons_append, List.getD_cons_zero, List.getD_cons_succ, Act.put, List.setIfInBounds_toArray, List.set_cons_zero, List.set_cons_succ]
    rw [St.withE_nil]
    rw [hB, brI_put now after hn0, HTM.out]
    clear hB
    have c2 : wd.cell? ⟨b, 2, none⟩ = some (.slice (ap pt) n ct) := (blk_cell HS.out 2).trans rfl
    go_wp2_with fail
    go_loopg [8] n (fun d x8 wr => ∃ (k : Nat), Aside0 (k + d = n ∧ k ≤ plc tm (D.map (·.t))) ∧ x8 = .int .i64 k ∧ wd = wr)
    case atStart => exact ⟨0, ⟨by omega, Nat.zero_le _⟩, rfl, rfl⟩
    case round =>
      obtain ⟨k, HK, rfl, rfl⟩ := hrel
      by_cases hlt : k < n ∧ (D.getD k ez).t ≤ tm
      · obtain ⟨hkn, htk⟩ := hlt
        obtain ⟨gt, ot, e, et⟩ := HD.out.1.rt.tm k (by rw [HN.out]; exact hkn)
        obtain ⟨z, hz⟩ : ∃ z, (D.getD k ez).t = z := ⟨_, rfl⟩
        rw [hz] at et htk
        have HST : Aside0 (k + 1 ≤ plc tm (D.map (·.t))) := ⟨plc_on HK.out.2 (by rw [List.length_map, HN.out]; exact hkn) (by rw [List.getD_eq_getElem?_getD, List.getElem?_map]; rw [List.getD_eq_getElem?_getD] at hz; rw [List.getElem?_eq_getElem (by rw [HN.out]; exact hkn)] at hz ⊢; simp at hz ⊢; omega)⟩
        rw [e] at c2
        simp only [ap, Option.map_some] at c2
        have hkI : (k : Int) < n := by omega
        clear hz e
        go_wp2
        go_roundg (gk - 1)
        case measure => have := HK.out; omega
        case rel => exact ⟨k + 1, ⟨by have := HK.out; omega, HST.out⟩, by go_num, rfl⟩
      · have HPL : Aside0 (k = plc tm (D.map (·.t)) ∧ k ≤ n) := ⟨plc_is HK.out.2 (by
          rw [List.length_map, HN.out]
          by_cases hk : k < n
          · right
            rw [List.getD_eq_getElem?_getD, List.getElem?_map]
            have h2 : ¬ (D.getD k ez).t ≤ tm := fun e => hlt ⟨hk, e⟩
            rw [List.getD_eq_getElem?_getD] at h2
            rw [List.getElem?_eq_getElem (by rw [HN.out]; exact hk)] at h2 ⊢
            simp at h2 ⊢; omega
          · left; have := HK.out; omega), by have := HK.out; omega⟩
        have hsp : (¬ k < n ∧ ¬ (k : Int) < n) ∨ (k < n ∧ (k : Int) < n ∧ ¬ (D.getD k ez).t ≤ tm) := by
          by_cases hk : k < n
          · exact .inr ⟨hk, by omega, fun e => hlt ⟨hk, e⟩⟩
          · exact .inl ⟨hk, by omega⟩
        clear hlt HK
        go_upto_region 5 with fail
        go_cut [40] from 23 to 40 (fun x40 Wx => x40 = .bool false ∧ wd = Wx)
        case first =>
          rcases hsp with ⟨_, h2⟩ | ⟨h1, h2, h3⟩
          · go_wp2_with fail
            go_meet
            case rel => exact ⟨rfl, rfl⟩
          · obtain ⟨gt, ot, e, et⟩ := HD.out.1.rt.tm k (by rw [HN.out]; exact h1)
            obtain ⟨z, hz⟩ : ∃ z, (D.getD k ez).t = z := ⟨_, rfl⟩
            rw [hz] at et h3
            rw [e] at c2
            simp only [ap, Option.map_some] at c2
            clear hz e h1
            have h4 : tm < z := by omega
            clear h3
            go_wp2_with fail
            go_meet
            case rel => exact ⟨congrArg Value.bool (decide_eq_false (by omega)), rfl⟩
        case rest =>
        obtain ⟨rfl, rfl⟩ := hcut
        clear hsp c2
        have HD2 : Aside0 (D2.length = n + 1 ∧ (aas D).take (k * 5) ++ ac a ++ (aas D).drop (k * 5) = aas D2 ∧ (tms D).take (k * 1) ++ [.int .i64 tm] ++ (tms D).drop (k * 1) = tms D2) := ⟨by rw [← HDD.out, ins_len, HN.out], by rw [← HDD.out, HPL.out.1]; exact aas_ins D ⟨tm, ord, a⟩, by rw [← HDD.out, HPL.out.1, Nat.mul_one]; exact tms_ins D ⟨tm, ord, a⟩⟩
        have hkn : k ≤ n := HPL.out.2
        have hnca : n ≤ ca := by have := HD.out.1.la; rw [HN.out] at this; exact this
        have hnct : n ≤ ct := by have := HD.out.1.lt; rw [HN.out] at this; exact this
        have hknI : (k : Int) ≤ n := by omega
        have hkca : k ≤ ca := by omega
        have hkct : k ≤ ct := by omega
        have hk0 : (0 : Int) ≤ k := by omega
        have HKN : Aside0 (k ≤ n ∧ n < 1000 ∧ n ≤ ca ∧ n ≤ ct) := ⟨hkn, HL.out, hnca, hnct⟩
        go_upto_region 7 with fail
        obtain ⟨W, hW⟩ : ∃ W, wd = W := ⟨_, rfl⟩
        rw [hW]
        obtain ⟨V2, hV2⟩ : ∃ V2, Value.slice (ap pt) n ct = V2 := ⟨_, rfl⟩
        have HBX : Aside0 (W.heap[b]? = some (.cells #[.int .i64 now, .slice (ap pa) n ca, V2] 38 (0, 0))) := ⟨by rw [← hV2, ← hW]; exact HS.out⟩
        have HBL : Aside0 (b < W.heap.size) := ⟨blk_lt HBX.out⟩
        have HRD : Aside0 (RdC W pa (aas D)) := ⟨hW ▸ HD.out.1.ra⟩
        have HLN : Aside0 ((aas D).length = n * 5) := ⟨by rw [aas_len, HN.out]⟩
        have HPN : Aside0 (pa = none → ca = 0) := ⟨HD.out.1.na⟩
        have HFIN : Aside0 ((aas D).take (k * 5) ++ ac a ++ (aas D).drop (k * 5) = aas D2) := ⟨HD2.out.2.1⟩
        have HX5 : Aside0 (W.heap[x5]? = some (.cells #[.int .i64 a.k, .int .i64 a.nd, .int .i64 a.n, .bool a.up, .string a.s] 28 (0, 0))) := ⟨hW ▸ HD.out.2.1⟩
        have HWB : Aside0 (DS B W b pa pt ca ct now D ∧ Below w0.heap.size w0 W ∧ B ≤ w0.heap.size) := ⟨hW ▸ HD.out.1, hW ▸ HD.out.2.2, HB0.out.2⟩
        have HV2 := Aside0.mk hV2
        clear hW hV2 HD HS hwd HB0
        go_wp2
        refine St.steadyF (n := 22) (by kernel_rfl) ([] :: [] :: [] :: [(2, 45)] :: [(3, 46)] :: [(4, 47)] :: [] :: [(5, 48), (6, 49)] :: [(1, 44), (7, 50)] :: [] :: [(9, 52)] :: [(8, 51), (10, 53)] :: [] :: [(12, 55)] :: [(13, 56)] :: [(14, 57)] :: [] :: [(15, 58), (16, 59)] :: [(11, 54), (17, 60)] :: [(0, 43)] :: [(19, 62)] :: [(18, 61), (20, 63)] :: []) (some 43 :: some 44 :: some 45 :: some 46 :: some 47 :: some 48 :: some 49 :: some 50 :: some 51 :: some 52 :: some 53 :: some 54 :: some 55 :: some 56 :: some 57 :: some 58 :: some 59 :: some 60 :: some 61 :: some 62 :: some 63 :: none :: []) (by kernel_rfl) (fun lf => ((St.eqT ?c7_0x8) :: (fun _ v w => lf 8 = false → lf 11 = false → lf 18 = false → lf 21 = false → ∃ g, v = .slice (some ⟨g, 0, none⟩) 0 0 ∧ W.heap.size ≤ g ∧ w.heap[g]? = some (.cells #[] 28 (0, 0))) :: (St.eqT ?c7_2x8) :: (St.eqT ?c7_3x8) :: (St.eqT ?c7_4x8) :: (St.eqT (.slice (ap pa) n ca)) :: (St.eqT ?c7_6x8) :: (St.eqT (.slice (ap pa) k ca)) :: (fun _ v w => lf 11 = false → lf 18 = false → lf 21 = false → w.ownsRow W.heap.size 28 5 v (k) ((aas D).take (k * 5))) :: (St.eqT (.agg (ac a).toArray)) :: (fun _ v w => lf 11 = false → lf 18 = false → lf 21 = false → ∃ q, v = .slice (some ⟨q, 0, none⟩) 1 1 ∧ w.heap[q]? = some (.cells ((ac a)).toArray 28 (0, 0))) :: (fun _ v w => lf 18 = false → lf 21 = false → w.ownsRow W.heap.size 28 5 v (k + 1) ((aas D).take (k * 5) ++ (ac a))) :: (St.eqT ?c7_12x8) :: (St.eqT ?c7_13x8) :: (St.eqT ?c7_14x8) :: (St.eqT (.slice (ap pa) n ca)) :: (St.eqT ?c7_16x8) :: (St.eqT (.slice (ap (cutp ca k 5 pa)) (n - k) (ca - k))) :: (fun _ v w => lf 21 = false → w.ownsRow W.heap.size 28 5 v (n + 1) (aas D2)) :: (St.eqT ?c7_19x8) :: (St.eqT ?c7_20x8) :: (St.eqT undef) :: [])) (fun _ => rfl) (by rfl) (fun lf w => (lf 21 = false → Below W.heap.size W w) ∧ (lf 21 = true → (∃ v, w.heap[b]? = some (.cells #[.int .i64 now, v, V2] 38 (0, 0)) ∧ w.ownsRow W.heap.size 28 5 v (n + 1) (aas D2) ∧ Ch (fun i => i = b) W w))) (fun i wa wb => (i = 8 → ∃ g, wa.heap[g]? = some (.cells #[] 28 (0, 0)) ∧ W.heap.size ≤ g ∧ wa.grownBy wb (some g)) ∧ (i = 11 ∨ i = 18 → ∃ q, wa.grownBy wb q ∧ ∀ g, q = some g → W.heap.size ≤ g) ∧ (i = 21 → ∃ v, wb = wa.setCell ⟨b, 1, none⟩ v ∧ wa.ownsRow W.heap.size 28 5 v (n + 1) (aas D2)) ∧ (i ≠ 8 → i ≠ 11 → i ≠ 18 → i ≠ 21 → Below wa.heap.size wa wb)) ?hst ?h0 (fun i lf w => Below W.heap.size W w ∧ lf 21 = false ∧ (i = 8 → lf 11 = false ∧ lf 18 = false) ∧ (i = 11 → lf 18 = false)) ?hB ?hG ?hop ?hend
        case hop =>
          refine ⟨?_, ?_, ?_, ?_, ?_, ?_, ?_, ?_, ?_, ?_, ?_, ?_, ?_, ?_, ?_, ?_, ?_, ?_, ?_, ?_, ?_, ?_, trivial⟩
          · intro lf hlf w hB
            simp only [St.withD]
            refine St.ob_value (v := ?_) (w' := w) (by rfl) ?_ ⟨⟨fun e => absurd e (by decide), fun e => absurd e (by decide), fun e => absurd e (by decide), fun _ _ _ _ => Below.refl _ _⟩, ?_⟩
            rotate_left
            · go_simp
              with_reducible rfl
            · rfl
          · intro lf hlf w hB
            simp only [St.withD]
            refine St.ob_value (v := .slice (some ⟨w.heap.size, 0, none⟩) 0 0) (w' := w.alloc (.cells #[] 28)) (by rfl) ?_ ⟨⟨fun e => absurd e (by decide), fun e => absurd e (by decide), fun e => absurd e (by decide), fun _ _ _ _ => below_alloc (Below.refl _ _) _⟩, fun _ _ _ _ => ⟨w.heap.size, rfl, hB.1.size, blk_new w _⟩⟩
            go_simp
          · intro lf hlf w hB
            simp only [St.withD]
            refine St.ob_value (v := ?_) (w' := w) (by rfl) ?_ ⟨⟨fun e => absurd e (by decide), fun e => absurd e (by decide), fun e => absurd e (by decide), fun _ _ _ _ => Below.refl _ _⟩, ?_⟩
            rotate_left
            · go_simp
              with_reducible rfl
            · rfl
          · intro lf hlf w hB; rintro _ ⟨_, rfl⟩
            simp only [St.withD, List.nil_append, List.cons_append, Act.put, List.setIfInBounds_toArray, List.set_cons_zero, List.set_cons_succ]
            refine St.ob_value (v := ?_) (w' := w) (by rfl) ?_ ⟨⟨fun e => absurd e (by decide), fun e => absurd e (by decide), fun e => absurd e (by decide), fun _ _ _ _ => Below.refl _ _⟩, ?_⟩
            rotate_left
            · go_simp
              with_reducible rfl
            · rfl
          · intro lf hlf w hB; rintro _ ⟨_, rfl⟩
            simp only [St.withD, List.nil_append, List.cons_append, Act.put, List.setIfInBounds_toArray, List.set_cons_zero, List.set_cons_succ]
            refine St.ob_value (v := ?_) (w' := w) (by rfl) ?_ ⟨⟨fun e => absurd e (by decide), fun e => absurd e (by decide), fun e => absurd e (by decide), fun _ _ _ _ => Below.refl _ _⟩, ?_⟩
            rotate_left
            · go_simp
              with_reducible rfl
            · rfl
          · intro lf hlf w hB; rintro _ ⟨_, rfl⟩
            simp only [St.withD, List.nil_append, List.cons_append, Act.put, List.setIfInBounds_toArray, List.set_cons_zero, List.set_cons_succ]
            have c1 : w.cell? ⟨b, 1, none⟩ = some (.slice (ap pa) n ca) := (blk_cell (blk_below HBX.out hB.1) 1).trans rfl
            refine St.ob_value (v := .slice (ap pa) n ca) (w' := w) (by rfl) ?_ ⟨⟨fun e => absurd e (by decide), fun e => absurd e (by decide), fun e => absurd e (by decide), fun _ _ _ _ => Below.refl _ _⟩, rfl⟩
            go_simp
          · intro lf hlf w hB
            simp only [St.withD]
            refine St.ob_value (v := ?_) (w' := w) (by rfl) ?_ ⟨⟨fun e => absurd e (by decide), fun e => absurd e (by decide), fun e => absurd e (by decide), fun _ _ _ _ => Below.refl _ _⟩, ?_⟩
            rotate_left
            · go_simp
              with_reducible rfl
            · rfl
          · intro lf hlf w hB; rintro _ ⟨_, rfl⟩ _ ⟨_, rfl⟩
            simp only [St.withD, List.nil_append, List.cons_append, Act.put, List.setIfInBounds_toArray, List.set_cons_zero, List.set_cons_succ]
            refine St.ob_value (v := .slice (ap pa) k ca) (w' := w) (by rfl) ?_ ⟨⟨fun e => absurd e (by decide), fun e => absurd e (by decide), fun e => absurd e (by decide), fun _ _ _ _ => Below.refl _ _⟩, rfl⟩
            go_simp
          · intro lf hlf w hB; rintro v1 ⟨ds1, ht1⟩ _ ⟨_, rfl⟩
            simp only [St.withD, List.nil_append, List.cons_append, Act.put, List.setIfInBounds_toArray, List.set_cons_zero, List.set_cons_succ]
            obtain ⟨hb, e21, e8, _⟩ := hB
            obtain ⟨e11, e18⟩ := e8 rfl
            obtain ⟨g, rfl, hg, hgb⟩ := ht1 hlf e11 e18 e21
            have HO : w.ownsRow W.heap.size 28 5 (.slice (some ⟨g, 0, none⟩) 0 0) 0 [] := ⟨rfl, .inr ⟨g, 0, #[], rfl, hg, hgb, Nat.le_refl _, by decide, rfl, rfl⟩⟩
            obtain ⟨v1, w1, hrun, hown, hgr, _⟩ := ap_src (ty := 36) Try.underlying36 infoA5 rfl (by decide) (p := pa) (m := k) (c := ca) HO ((HRD.out.below' hb).take (k * 5)) (by rw [List.length_take, HLN.out]; have := HKN.out; omega) (fun u hu => acs_one _ u (List.mem_of_mem_take hu)) HPN.out (by have := HKN.out; omega) (by have := HKN.out; simp only [maxLen]; omega) (by have := HKN.out; omega) hb.size
            rw [Nat.zero_add, List.nil_append] at hown
            exact St.ob_value (v := v1) (w' := w1) (by rfl) (append_op rfl (by rfl) (by rfl) hrun) ⟨⟨fun _ => ⟨g, hgb, hg, hgr⟩, fun e => absurd e (by decide), fun e => absurd e (by decide), fun e => absurd rfl e⟩, fun _ _ _ => hown⟩
          · intro lf hlf w hB
            simp only [St.withD]
            have hx := blk_below HX5.out hB.1
            have b0 : w.cell? ⟨x5, 0, none⟩ = some (.int .i64 a.k) := (blk_cell hx 0).trans rfl
            have b1 : w.cell? ⟨x5, 1, none⟩ = some (.int .i64 a.nd) := (blk_cell hx 1).trans rfl
            have b2 : w.cell? ⟨x5, 2, none⟩ = some (.int .i64 a.n) := (blk_cell hx 2).trans rfl
            have b3 : w.cell? ⟨x5, 3, none⟩ = some (.bool a.up) := (blk_cell hx 3).trans rfl
            have b4 : w.cell? ⟨x5, 4, none⟩ = some (.string a.s) := (blk_cell hx 4).trans rfl
            refine St.ob_value (v := .agg (ac a).toArray) (w' := w) (by rfl) ?_ ⟨⟨fun e => absurd e (by decide), fun e => absurd e (by decide), fun e => absurd e (by decide), fun _ _ _ _ => Below.refl _ _⟩, rfl⟩
            unfold ac
            go_simp
          · intro lf hlf w hB; rintro _ ⟨_, rfl⟩
            simp only [St.withD, List.nil_append, List.cons_append, Act.put, List.setIfInBounds_toArray, List.set_cons_zero, List.set_cons_succ]
            refine St.ob_value (v := .slice (some ⟨w.heap.size, 0, none⟩) 1 1) (w' := w.alloc (.cells ((ac a)).toArray 28)) (by rfl) ?_ ⟨⟨fun e => absurd e (by decide), fun e => absurd e (by decide), fun e => absurd e (by decide), fun _ _ _ _ => below_alloc (Below.refl _ _) _⟩, fun _ _ _ => ⟨w.heap.size, rfl, blk_new w _⟩⟩
            unfold ac
            go_simp
          · intro lf hlf w hB; rintro v8 ⟨ds8, ht8⟩ v10 ⟨ds10, ht10⟩
            simp only [St.withD, List.nil_append, List.cons_append, Act.put, List.setIfInBounds_toArray, List.set_cons_zero, List.set_cons_succ]
            obtain ⟨hb, e21, _, e18⟩ := hB
            have e18 := e18 rfl
            have HO := ht8 hlf e18 e21
            obtain ⟨q, rfl, hq⟩ := ht10 hlf e18 e21
            obtain ⟨v1, w1, hrun, hown, hgr, _⟩ := ap_src (ty := 36) Try.underlying36 infoA5 rfl (by decide) (p := some (q, 0)) (m := 1) (c := 1) HO (RdC.of_blk hq) (by rfl) (fun u hu => by simp only [ac, List.mem_cons, List.not_mem_nil, or_false] at hu; rcases hu with rfl | rfl | rfl | rfl | rfl <;> rfl) (fun e => by cases e) (by omega) (by have := HKN.out; simp only [maxLen]; omega) (by have := HKN.out; omega) hb.size
            exact St.ob_value (v := v1) (w' := w1) (by rfl) (append_op rfl (by rfl) (by rfl) hrun) ⟨⟨fun e => absurd e (by decide), fun _ => ⟨_, hgr, fun g e => own_base HO g e⟩, fun e => absurd e (by decide), fun _ e => absurd rfl e⟩, fun _ _ => hown⟩
          · intro lf hlf w hB
            simp only [St.withD]
            refine St.ob_value (v := ?_) (w' := w) (by rfl) ?_ ⟨⟨fun e => absurd e (by decide), fun e => absurd e (by decide), fun e => absurd e (by decide), fun _ _ _ _ => Below.refl _ _⟩, ?_⟩
            rotate_left
            · go_simp
              with_reducible rfl
            · rfl
          · intro lf hlf w hB; rintro _ ⟨_, rfl⟩
            simp only [St.withD, List.nil_append, List.cons_append, Act.put, List.setIfInBounds_toArray, List.set_cons_zero, List.set_cons_succ]
            refine St.ob_value (v := ?_) (w' := w) (by rfl) ?_ ⟨⟨fun e => absurd e (by decide), fun e => absurd e (by decide), fun e => absurd e (by decide), fun _ _ _ _ => Below.refl _ _⟩, ?_⟩
            rotate_left
            · go_simp
              with_reducible rfl
            · rfl
          · intro lf hlf w hB; rintro _ ⟨_, rfl⟩
            simp only [St.withD, List.nil_append, List.cons_append, Act.put, List.setIfInBounds_toArray, List.set_cons_zero, List.set_cons_succ]
            refine St.ob_value (v := ?_) (w' := w) (by rfl) ?_ ⟨⟨fun e => absurd e (by decide), fun e => absurd e (by decide), fun e => absurd e (by decide), fun _ _ _ _ => Below.refl _ _⟩, ?_⟩
            rotate_left
            · go_simp
              with_reducible rfl
            · rfl
          · intro lf hlf w hB; rintro _ ⟨_, rfl⟩
            simp only [St.withD, List.nil_append, List.cons_append, Act.put, List.setIfInBounds_toArray, List.set_cons_zero, List.set_cons_succ]
            have c1 : w.cell? ⟨b, 1, none⟩ = some (.slice (ap pa) n ca) := (blk_cell (blk_below HBX.out hB.1) 1).trans rfl
            refine St.ob_value (v := .slice (ap pa) n ca) (w' := w) (by rfl) ?_ ⟨⟨fun e => absurd e (by decide), fun e => absurd e (by decide), fun e => absurd e (by decide), fun _ _ _ _ => Below.refl _ _⟩, rfl⟩
            go_simp
          · intro lf hlf w hB
            simp only [St.withD]
            refine St.ob_value (v := ?_) (w' := w) (by rfl) ?_ ⟨⟨fun e => absurd e (by decide), fun e => absurd e (by decide), fun e => absurd e (by decide), fun _ _ _ _ => Below.refl _ _⟩, ?_⟩
            rotate_left
            · go_simp
              with_reducible rfl
            · rfl
          · intro lf hlf w hB; rintro _ ⟨_, rfl⟩ _ ⟨_, rfl⟩
            simp only [St.withD, List.nil_append, List.cons_append, Act.put, List.setIfInBounds_toArray, List.set_cons_zero, List.set_cons_succ]
            refine St.ob_value (v := .slice (ap (cutp ca k 5 pa)) (n - k) (ca - k)) (w' := w) (by rfl) ?_ ⟨⟨fun e => absurd e (by decide), fun e => absurd e (by decide), fun e => absurd e (by decide), fun _ _ _ _ => Below.refl _ _⟩, rfl⟩
            rw [← ap_cutp]
            go_simp
          · intro lf hlf w hB; rintro v11 ⟨ds11, ht11⟩ _ ⟨_, rfl⟩
            simp only [St.withD, List.nil_append, List.cons_append, Act.put, List.setIfInBounds_toArray, List.set_cons_zero, List.set_cons_succ]
            obtain ⟨hb, e21, _, _⟩ := hB
            have HO := ht11 hlf e21
            obtain ⟨v1, w1, hrun, hown, hgr, _⟩ := ap_src (ty := 36) Try.underlying36 infoA5 rfl (by decide) (p := cutp ca k 5 pa) (m := n - k) (c := ca - k) HO ((HRD.out.below' hb).drop ca k 5 (by rw [HLN.out]; have := HKN.out; omega)) (by rw [List.length_drop, HLN.out]; have := HKN.out; omega) (fun u hu => acs_one _ u (List.mem_of_mem_drop hu)) (fun e => by have := HPN.out (cutp_none e); omega) (by have := HKN.out; omega) (by have := HKN.out; simp only [maxLen]; omega) (by have := HKN.out; omega) hb.size
            rw [show k + 1 + (n - k) = n + 1 by have := HKN.out; omega, HFIN.out] at hown
            exact St.ob_value (v := v1) (w' := w1) (by rfl) (append_op rfl (by rfl) (by rfl) hrun) ⟨⟨fun e => absurd e (by decide), fun _ => ⟨_, hgr, fun g e => own_base HO g e⟩, fun e => absurd e (by decide), fun _ _ e => absurd rfl e⟩, fun _ => hown⟩
          · intro lf hlf w hB; rintro _ ⟨_, rfl⟩
            simp only [St.withD, List.nil_append, List.cons_append, Act.put, List.setIfInBounds_toArray, List.set_cons_zero, List.set_cons_succ]
            refine St.ob_value (v := ?_) (w' := w) (by rfl) ?_ ⟨⟨fun e => absurd e (by decide), fun e => absurd e (by decide), fun e => absurd e (by decide), fun _ _ _ _ => Below.refl _ _⟩, ?_⟩
            rotate_left
            · go_simp
              with_reducible rfl
            · rfl
          · intro lf hlf w hB; rintro _ ⟨_, rfl⟩
            simp only [St.withD, List.nil_append, List.cons_append, Act.put, List.setIfInBounds_toArray, List.set_cons_zero, List.set_cons_succ]
            refine St.ob_value (v := ?_) (w' := w) (by rfl) ?_ ⟨⟨fun e => absurd e (by decide), fun e => absurd e (by decide), fun e => absurd e (by decide), fun _ _ _ _ => Below.refl _ _⟩, ?_⟩
            rotate_left
            · go_simp
              with_reducible rfl
            · rfl
          · intro lf hlf w hB; rintro v18 ⟨ds18, ht18⟩ _ ⟨_, rfl⟩
            simp only [St.withD, List.nil_append, List.cons_append, Act.put, List.setIfInBounds_toArray, List.set_cons_zero, List.set_cons_succ]
            obtain ⟨hb, e21, _, _⟩ := hB
            have HO := ht18 hlf
            obtain ⟨p9, c9, rfl, _⟩ := own_rdc HO
            have c1 : w.cell? ⟨b, 1, none⟩ = some (.slice (ap pa) n ca) := (blk_cell (blk_below HBX.out hb) 1).trans rfl
            have f1 := blk_frozen (blk_below HBX.out hb) 1
            refine St.ob_skip (w' := w.setCell ⟨b, 1, none⟩ (.slice (ap p9) (n + 1) c9)) (by rfl) ?_ ⟨⟨fun e => absurd e (by decide), fun e => absurd e (by decide), fun _ => ⟨_, rfl, HO⟩, fun _ _ _ e => absurd rfl e⟩, rfl⟩
            go_simp
        case hst =>
          intro i jx fl hi hj hfi hfj hcl dsx vx wa wb ht hR
          rcases (by omega : jx = 0 ∨ jx = 1 ∨ jx = 2 ∨ jx = 3 ∨ jx = 4 ∨ jx = 5 ∨ jx = 6 ∨ jx = 7 ∨ jx = 8 ∨ jx = 9 ∨ jx = 10 ∨ jx = 11 ∨ jx = 12 ∨ jx = 13 ∨ jx = 14 ∨ jx = 15 ∨ jx = 16 ∨ jx = 17 ∨ jx = 18 ∨ jx = 19 ∨ jx = 20 ∨ jx = 21) with rfl | rfl | rfl | rfl | rfl | rfl | rfl | rfl | rfl | rfl | rfl | rfl | rfl | rfl | rfl | rfl | rfl | rfl | rfl | rfl | rfl | rfl
          · exact ht
          · intro f8 f11 f18 f21
            obtain ⟨n8, g8⟩ := up_ne f8
            obtain ⟨n11, g11⟩ := up_ne f11
            obtain ⟨n18, g18⟩ := up_ne f18
            obtain ⟨n21, g21⟩ := up_ne f21
            have hme : i ≠ 1 := fun e => by subst e; rw [hfi] at hfj; cases hfj
            have ht := ht g8 g11 g18 g21
            obtain ⟨g, e1, h1, h2⟩ := ht
            exact ⟨g, e1, h1, blk_below h2 (hR.2.2.2 n8 n11 n18 n21)⟩
          · exact ht
          · exact ht
          · exact ht
          · exact ht
          · exact ht
          · exact ht
          · intro f11 f18 f21
            obtain ⟨n11, g11⟩ := up_ne f11
            obtain ⟨n18, g18⟩ := up_ne f18
            obtain ⟨n21, g21⟩ := up_ne f21
            have hme : i ≠ 8 := fun e => by subst e; rw [hfi] at hfj; cases hfj
            have ht := ht g11 g18 g21
            exact pw_own_below ht (hR.2.2.2 hme n11 n18 n21)
          · exact ht
          · intro f11 f18 f21
            obtain ⟨n11, g11⟩ := up_ne f11
            obtain ⟨n18, g18⟩ := up_ne f18
            obtain ⟨n21, g21⟩ := up_ne f21
            have hme : i ≠ 10 := fun e => by subst e; rw [hfi] at hfj; cases hfj
            have ht := ht g11 g18 g21
            obtain ⟨q, e1, h1⟩ := ht
            refine ⟨q, e1, ?_⟩
            by_cases h8 : i = 8
            · obtain ⟨g, hg, _, hgr⟩ := hR.1 h8
              exact blk_grown h1 hgr (fun e => by cases e; rw [h1] at hg; simp [ac] at hg)
            · exact blk_below h1 (hR.2.2.2 h8 n11 n18 n21)
          · intro f18 f21
            obtain ⟨n18, g18⟩ := up_ne f18
            obtain ⟨n21, g21⟩ := up_ne f21
            have hme : i ≠ 11 := fun e => by subst e; rw [hfi] at hfj; cases hfj
            have ht := ht g18 g21
            have n8 : i ≠ 8 := fun e => by subst e; have := hcl 11 8 hfj (by kernel_rfl); rw [hfi] at this; cases this
            exact pw_own_below ht (hR.2.2.2 n8 hme n18 n21)
          · exact ht
          · exact ht
          · exact ht
          · exact ht
          · exact ht
          · exact ht
          · intro f21
            obtain ⟨n21, g21⟩ := up_ne f21
            have hme : i ≠ 18 := fun e => by subst e; rw [hfi] at hfj; cases hfj
            have ht := ht g21
            have n11 : i ≠ 11 := fun e => by subst e; have := hcl 18 11 hfj (by kernel_rfl); rw [hfi] at this; cases this
            have n8 : i ≠ 8 := fun e => by subst e; have := hcl 18 11 hfj (by kernel_rfl); have := hcl 11 8 this (by kernel_rfl); rw [hfi] at this; cases this
            exact pw_own_below ht (hR.2.2.2 n8 n11 hme n21)
          · exact ht
          · exact ht
          · exact ht
        case h0 => exact ⟨fun _ => below_drew1 (Below.refl _ _), fun e => by cases e⟩
        case hB => (
          intro i lf w hi hl hd hcl h
          have hi22 : i < 22 := hi
          have hE : lf 21 = false := by
            by_cases h3 : i = 21
            · exact h3 ▸ hl
            · cases e : lf 21
              · rfl
              · have h20 := hcl 21 20 e (by kernel_rfl)
                have := (by
                  by_cases h19 : i = 19
                  · subst h19; exact hcl 20 19 h20 (by kernel_rfl)
                  · exact hcl 21 i e (by clear hi hl hd hcl h e h20; rcases (by omega : i = 0 ∨ i = 1 ∨ i = 2 ∨ i = 3 ∨ i = 4 ∨ i = 5 ∨ i = 6 ∨ i = 7 ∨ i = 8 ∨ i = 9 ∨ i = 10 ∨ i = 11 ∨ i = 12 ∨ i = 13 ∨ i = 14 ∨ i = 15 ∨ i = 16 ∨ i = 17 ∨ i = 18 ∨ i = 20) with rfl | rfl | rfl | rfl | rfl | rfl | rfl | rfl | rfl | rfl | rfl | rfl | rfl | rfl | rfl | rfl | rfl | rfl | rfl | rfl <;> kernel_rfl) : lf i = true)
                rw [hl] at this; cases this
          refine ⟨h.1 hE, hE, fun e => ?_, fun e => ?_⟩
          · subst e
            have e11 : lf 11 = false := by
              cases e : lf 11
              · rfl
              · have := hcl 11 8 e (by kernel_rfl); rw [hl] at this; cases this
            refine ⟨e11, ?_⟩
            cases e : lf 18
            · rfl
            · have := hcl 18 11 e (by kernel_rfl); rw [e11] at this; cases this
          · subst e
            cases e : lf 18
            · rfl
            · have := hcl 18 11 e (by kernel_rfl); rw [hl] at this; cases this)
        case hG => (
          intro i lf wa wb hi hl hd hcl h hR
          have hi22 : i < 22 := hi
          have hE : i ≠ 21 → lf 21 = false := fun h3 => by
            cases e : lf 21
            · rfl
            · have h20 := hcl 21 20 e (by kernel_rfl)
              have := (by
                by_cases h19 : i = 19
                · subst h19; exact hcl 20 19 h20 (by kernel_rfl)
                · exact hcl 21 i e (by clear hi hl hd hcl h hR e h20; rcases (by omega : i = 0 ∨ i = 1 ∨ i = 2 ∨ i = 3 ∨ i = 4 ∨ i = 5 ∨ i = 6 ∨ i = 7 ∨ i = 8 ∨ i = 9 ∨ i = 10 ∨ i = 11 ∨ i = 12 ∨ i = 13 ∨ i = 14 ∨ i = 15 ∨ i = 16 ∨ i = 17 ∨ i = 18 ∨ i = 20) with rfl | rfl | rfl | rfl | rfl | rfl | rfl | rfl | rfl | rfl | rfl | rfl | rfl | rfl | rfl | rfl | rfl | rfl | rfl | rfl <;> kernel_rfl) : lf i = true)
              rw [hl] at this; cases this
          have h21 : lf 21 = false := by
            by_cases h3 : i = 21
            · exact h3 ▸ hl
            · exact hE h3
          have hb := h.1 h21
          by_cases h3 : i = 21
          · subst h3
            obtain ⟨v, rfl, hv⟩ := hR.2.2.1 rfl
            refine ⟨fun e => (by simp [St.upB] at e), fun _ => ⟨v, blk_put (blk_below HBX.out hb) 1 v rfl, own_setCell hv (fun e => by have := own_base hv b e.symm; have := HBL.out; omega) v, (Ch.of_below hb).set rfl⟩⟩
          · have a21 : St.upB lf i 21 = lf 21 := by unfold St.upB; rw [if_neg (Ne.symm h3)]
            rw [a21, h21]
            refine ⟨fun _ => ?_, fun e => (by cases e)⟩
            by_cases h8 : i = 8
            · obtain ⟨g, _, hg, hgr⟩ := hR.1 h8
              exact hb.grown hgr hb.size (fun k e => by cases e; exact hg)
            · by_cases h11 : i = 11 ∨ i = 18
              · obtain ⟨q, hgr, hq⟩ := hR.2.1 h11
                exact hb.grown hgr hb.size hq
              · exact below_step hb (hR.2.2.2 h8 (fun e => h11 (.inl e)) (fun e => h11 (.inr e)) h3))
        case hend =>
          intro fl w hall hB
          rintro _ rfl v1 ht1 _ rfl _ rfl _ rfl _ rfl _ rfl _ rfl v8 ht8 _ rfl v10 ht10 v11 ht11 _ rfl _ rfl _ rfl _ rfl _ rfl _ rfl v18 ht18 _ rfl _ rfl _ rfl
          simp only [List.map_cons, List.map_nil, List.nil_append, List.cons_append, List.getD_cons_zero, List.getD_cons_succ, Act.put, List.setIfInBounds_toArray, List.set_cons_zero, List.set_cons_succ]
          rw [St.withE_nil]
          have h21 := hall 21 (by decide)
          have HPO := Aside0.mk (hB.2 h21)
          clear hB hall ht1 ht8 ht10 ht11 ht18
          obtain ⟨v7, hb7, hr7, hc7⟩ := HPO.out
          obtain ⟨p1, c1, rfl, hle1, hrd1, hob1, hnn1⟩ := own_rdc hr7
          have HA1 : Aside0 (RdC w p1 (aas D2) ∧ n + 1 ≤ c1 ∧ (∀ q, p1 = some q → w0.heap.size ≤ q.1 ∧ q.1 < w.heap.size) ∧ (p1 = none → c1 = 0) ∧ Ch (fun i => i = b) w0 w) := ⟨hrd1, hle1, fun q e => ⟨Nat.le_trans HWB.out.2.1.size (own_base hr7 q.1 (hob1 q e)), own_lt hr7 q.1 (hob1 q e)⟩, hnn1, (Ch.of_below HWB.out.2.1).trans hc7⟩
          have HT1 : Aside0 (w.heap[b]? = some (.cells #[.int .i64 now, .slice (ap p1) (n + 1) c1, .slice (ap pt) n ct] 38 (0, 0)) ∧ RdC w pt (tms D) ∧ (tms D).length = n * 1 ∧ (pt = none → ct = 0)) := ⟨by rw [HV2.out]; exact hb7, HWB.out.1.rt.ch hc7 (fun q e => (HWB.out.1.bt q e).1), by rw [tms_len, HN.out, Nat.mul_one], HWB.out.1.nt⟩
          have HWB2 : Aside0 ((B ≤ w0.heap.size ∧ B ≤ b) ∧ b < w0.heap.size) := ⟨⟨HWB.out.2.2, HWB.out.1.lo⟩, HBX0L.out⟩
          clear hb7 hr7 hc7 hle1 hrd1 hob1 hnn1 HPO HBX HBL HRD HLN HPN HFIN HX5 HWB HV2
          go_upto_region 8 with fail
          generalize w = W at HA1 HT1 ⊢
          obtain ⟨V1, hV1⟩ : ∃ V1, Value.slice (ap p1) (n + 1) c1 = V1 := ⟨_, rfl⟩
          rw [hV1] at HT1
          have HV1 := Aside0.mk hV1
          have HWB := HWB2
          have HBX : Aside0 (W.heap[b]? = some (.cells #[.int .i64 now, V1, .slice (ap pt) n ct] 38 (0, 0))) := ⟨HT1.out.1⟩
          have HBL : Aside0 (b < W.heap.size) := ⟨blk_lt HBX.out⟩
          have HRD : Aside0 (RdC W pt (tms D)) := ⟨HT1.out.2.1⟩
          have HLN : Aside0 ((tms D).length = n * 1) := ⟨HT1.out.2.2.1⟩
          have HPN : Aside0 (pt = none → ct = 0) := ⟨HT1.out.2.2.2⟩
          have HFIN : Aside0 ((tms D).take (k * 1) ++ [.int .i64 tm] ++ (tms D).drop (k * 1) = tms D2) := ⟨HD2.out.2.2⟩
          clear hV1 HT1 HWB2
          go_wp2
          refine St.steadyF (n := 22) (by kernel_rfl) ([] :: [] :: [] :: [(2, 66)] :: [(3, 67)] :: [(4, 68)] :: [] :: [(5, 69), (6, 70)] :: [(1, 65), (7, 71)] :: [] :: [(9, 73)] :: [(8, 72), (10, 74)] :: [] :: [(12, 76)] :: [(13, 77)] :: [(14, 78)] :: [] :: [(15, 79), (16, 80)] :: [(11, 75), (17, 81)] :: [(0, 64)] :: [(19, 83)] :: [(18, 82), (20, 84)] :: []) (some 64 :: some 65 :: some 66 :: some 67 :: some 68 :: some 69 :: some 70 :: some 71 :: some 72 :: some 73 :: some 74 :: some 75 :: some 76 :: some 77 :: some 78 :: some 79 :: some 80 :: some 81 :: some 82 :: some 83 :: some 84 :: none :: []) (by kernel_rfl) (fun lf => ((St.eqT ?c8_0x9) :: (fun _ v w => lf 8 = false → lf 11 = false → lf 18 = false → lf 21 = false → ∃ g, v = .slice (some ⟨g, 0, none⟩) 0 0 ∧ W.heap.size ≤ g ∧ w.heap[g]? = some (.cells #[] 3 (0, 0))) :: (St.eqT ?c8_2x9) :: (St.eqT ?c8_3x9) :: (St.eqT ?c8_4x9) :: (St.eqT (.slice (ap pt) n ct)) :: (St.eqT ?c8_6x9) :: (St.eqT (.slice (ap pt) k ct)) :: (fun _ v w => lf 11 = false → lf 18 = false → lf 21 = false → w.ownsRow W.heap.size 3 1 v (k) ((tms D).take (k * 1))) :: (St.eqT ?c8_9x9) :: (fun _ v w => lf 11 = false → lf 18 = false → lf 21 = false → ∃ q, v = .slice (some ⟨q, 0, none⟩) 1 1 ∧ w.heap[q]? = some (.cells ([.int .i64 tm]).toArray 3 (0, 0))) :: (fun _ v w => lf 18 = false → lf 21 = false → w.ownsRow W.heap.size 3 1 v (k + 1) ((tms D).take (k * 1) ++ [.int .i64 tm])) :: (St.eqT ?c8_12x9) :: (St.eqT ?c8_13x9) :: (St.eqT ?c8_14x9) :: (St.eqT (.slice (ap pt) n ct)) :: (St.eqT ?c8_16x9) :: (St.eqT (.slice (ap (cutp ct k 1 pt)) (n - k) (ct - k))) :: (fun _ v w => lf 21 = false → w.ownsRow W.heap.size 3 1 v (n + 1) (tms D2)) :: (St.eqT ?c8_19x9) :: (St.eqT ?c8_20x9) :: (St.eqT undef) :: [])) (fun _ => rfl) (by rfl) (fun lf w => (lf 21 = false → Below W.heap.size W w) ∧ (lf 21 = true → (∃ v, w.heap[b]? = some (.cells #[.int .i64 now, V1, v] 38 (0, 0)) ∧ w.ownsRow W.heap.size 3 1 v (n + 1) (tms D2) ∧ Ch (fun i => i = b) W w))) (fun i wa wb => (i = 8 → ∃ g, wa.heap[g]? = some (.cells #[] 3 (0, 0)) ∧ W.heap.size ≤ g ∧ wa.grownBy wb (some g)) ∧ (i = 11 ∨ i = 18 → ∃ q, wa.grownBy wb q ∧ ∀ g, q = some g → W.heap.size ≤ g) ∧ (i = 21 → ∃ v, wb = wa.setCell ⟨b, 2, none⟩ v ∧ wa.ownsRow W.heap.size 3 1 v (n + 1) (tms D2)) ∧ (i ≠ 8 → i ≠ 11 → i ≠ 18 → i ≠ 21 → Below wa.heap.size wa wb)) ?hst ?h0 (fun i lf w => Below W.heap.size W w ∧ lf 21 = false ∧ (i = 8 → lf 11 = false ∧ lf 18 = false) ∧ (i = 11 → lf 18 = false)) ?hB ?hG ?hop ?hend
          case hop =>
            refine ⟨?_, ?_, ?_, ?_, ?_, ?_, ?_, ?_, ?_, ?_, ?_, ?_, ?_, ?_, ?_, ?_, ?_, ?_, ?_, ?_, ?_, ?_, trivial⟩
            · intro lf hlf w hB
              simp only [St.withD]
              refine St.ob_value (v := ?_) (w' := w) (by rfl) ?_ ⟨⟨fun e => absurd e (by decide), fun e => absurd e (by decide), fun e => absurd e (by decide), fun _ _ _ _ => Below.refl _ _⟩, ?_⟩
              rotate_left
              · go_simp
                with_reducible rfl
              · rfl
            · intro lf hlf w hB
              simp only [St.withD]
              refine St.ob_value (v := .slice (some ⟨w.heap.size, 0, none⟩) 0 0) (w' := w.alloc (.cells #[] 3)) (by rfl) ?_ ⟨⟨fun e => absurd e (by decide), fun e => absurd e (by decide), fun e => absurd e (by decide), fun _ _ _ _ => below_alloc (Below.refl _ _) _⟩, fun _ _ _ _ => ⟨w.heap.size, rfl, hB.1.size, blk_new w _⟩⟩
              go_simp
            · intro lf hlf w hB
              simp only [St.withD]
              refine St.ob_value (v := ?_) (w' := w) (by rfl) ?_ ⟨⟨fun e => absurd e (by decide), fun e => absurd e (by decide), fun e => absurd e (by decide), fun _ _ _ _ => Below.refl _ _⟩, ?_⟩
              rotate_left
              · go_simp
                with_reducible rfl
              · rfl
            · intro lf hlf w hB; rintro _ ⟨_, rfl⟩
              simp only [St.withD, List.nil_append, List.cons_append, Act.put, List.setIfInBounds_toArray, List.set_cons_zero, List.set_cons_succ]
              refine St.ob_value (v := ?_) (w' := w) (by rfl) ?_ ⟨⟨fun e => absurd e (by decide), fun e => absurd e (by decide), fun e => absurd e (by decide), fun _ _ _ _ => Below.refl _ _⟩, ?_⟩
              rotate_left
              · go_simp
                with_reducible rfl
              · rfl
            · intro lf hlf w hB; rintro _ ⟨_, rfl⟩
              simp only [St.withD, List.nil_append, List.cons_append, Act.put, List.setIfInBounds_toArray, List.set_cons_zero, List.set_cons_succ]
              refine St.ob_value (v := ?_) (w' := w) (by rfl) ?_ ⟨⟨fun e => absurd e (by decide), fun e => absurd e (by decide), fun e => absurd e (by decide), fun _ _ _ _ => Below.refl _ _⟩, ?_⟩
              rotate_left
              · go_simp
                with_reducible rfl
              · rfl
            · intro lf hlf w hB; rintro _ ⟨_, rfl⟩
              simp only [St.withD, List.nil_append, List.cons_append, Act.put, List.setIfInBounds_toArray, List.set_cons_zero, List.set_cons_succ]
              have c1 : w.cell? ⟨b, 2, none⟩ = some (.slice (ap pt) n ct) := (blk_cell (blk_below HBX.out hB.1) 2).trans rfl
              refine St.ob_value (v := .slice (ap pt) n ct) (w' := w) (by rfl) ?_ ⟨⟨fun e => absurd e (by decide), fun e => absurd e (by decide), fun e => absurd e (by decide), fun _ _ _ _ => Below.refl _ _⟩, rfl⟩
              go_simp
            · intro lf hlf w hB
              simp only [St.withD]
              refine St.ob_value (v := ?_) (w' := w) (by rfl) ?_ ⟨⟨fun e => absurd e (by decide), fun e => absurd e (by decide), fun e => absurd e (by decide), fun _ _ _ _ => Below.refl _ _⟩, ?_⟩
              rotate_left
              · go_simp
                with_reducible rfl
              · rfl
            · intro lf hlf w hB; rintro _ ⟨_, rfl⟩ _ ⟨_, rfl⟩
              simp only [St.withD, List.nil_append, List.cons_append, Act.put, List.setIfInBounds_toArray, List.set_cons_zero, List.set_cons_succ]
              refine St.ob_value (v := .slice (ap pt) k ct) (w' := w) (by rfl) ?_ ⟨⟨fun e => absurd e (by decide), fun e => absurd e (by decide), fun e => absurd e (by decide), fun _ _ _ _ => Below.refl _ _⟩, rfl⟩
              go_simp
            · intro lf hlf w hB; rintro v1 ⟨ds1, ht1⟩ _ ⟨_, rfl⟩
              simp only [St.withD, List.nil_append, List.cons_append, Act.put, List.setIfInBounds_toArray, List.set_cons_zero, List.set_cons_succ]
              obtain ⟨hb, e21, e8, _⟩ := hB
              obtain ⟨e11, e18⟩ := e8 rfl
              obtain ⟨g, rfl, hg, hgb⟩ := ht1 hlf e11 e18 e21
              have HO : w.ownsRow W.heap.size 3 1 (.slice (some ⟨g, 0, none⟩) 0 0) 0 [] := ⟨rfl, .inr ⟨g, 0, #[], rfl, hg, hgb, Nat.le_refl _, by decide, rfl, rfl⟩⟩
              obtain ⟨v1, w1, hrun, hown, hgr, _⟩ := ap_src (ty := 22) Try.underlying22 info3 rfl (by decide) (p := pt) (m := k) (c := ct) HO ((HRD.out.below' hb).take (k * 1)) (by rw [List.length_take, HLN.out]; have := HKN.out; omega) (fun u hu => tms_one _ u (List.mem_of_mem_take hu)) HPN.out (by have := HKN.out; omega) (by have := HKN.out; simp only [maxLen]; omega) (by have := HKN.out; omega) hb.size
              rw [Nat.zero_add, List.nil_append] at hown
              exact St.ob_value (v := v1) (w' := w1) (by rfl) (append_op rfl (by rfl) (by rfl) hrun) ⟨⟨fun _ => ⟨g, hgb, hg, hgr⟩, fun e => absurd e (by decide), fun e => absurd e (by decide), fun e => absurd rfl e⟩, fun _ _ _ => hown⟩
            · intro lf hlf w hB
              simp only [St.withD]
              refine St.ob_value (v := ?_) (w' := w) (by rfl) ?_ ⟨⟨fun e => absurd e (by decide), fun e => absurd e (by decide), fun e => absurd e (by decide), fun _ _ _ _ => Below.refl _ _⟩, ?_⟩
              rotate_left
              · go_simp
                with_reducible rfl
              · rfl
            · intro lf hlf w hB; rintro _ ⟨_, rfl⟩
              simp only [St.withD, List.nil_append, List.cons_append, Act.put, List.setIfInBounds_toArray, List.set_cons_zero, List.set_cons_succ]
              refine St.ob_value (v := .slice (some ⟨w.heap.size, 0, none⟩) 1 1) (w' := w.alloc (.cells ([.int .i64 tm]).toArray 3)) (by rfl) ?_ ⟨⟨fun e => absurd e (by decide), fun e => absurd e (by decide), fun e => absurd e (by decide), fun _ _ _ _ => below_alloc (Below.refl _ _) _⟩, fun _ _ _ => ⟨w.heap.size, rfl, blk_new w _⟩⟩
              go_simp
            · intro lf hlf w hB; rintro v8 ⟨ds8, ht8⟩ v10 ⟨ds10, ht10⟩
              simp only [St.withD, List.nil_append, List.cons_append, Act.put, List.setIfInBounds_toArray, List.set_cons_zero, List.set_cons_succ]
              obtain ⟨hb, e21, _, e18⟩ := hB
              have e18 := e18 rfl
              have HO := ht8 hlf e18 e21
              obtain ⟨q, rfl, hq⟩ := ht10 hlf e18 e21
              obtain ⟨v1, w1, hrun, hown, hgr, _⟩ := ap_src (ty := 22) Try.underlying22 info3 rfl (by decide) (p := some (q, 0)) (m := 1) (c := 1) HO (RdC.of_blk hq) (by rfl) (fun u hu => by simp at hu; subst hu; rfl) (fun e => by cases e) (by omega) (by have := HKN.out; simp only [maxLen]; omega) (by have := HKN.out; omega) hb.size
              exact St.ob_value (v := v1) (w' := w1) (by rfl) (append_op rfl (by rfl) (by rfl) hrun) ⟨⟨fun e => absurd e (by decide), fun _ => ⟨_, hgr, fun g e => own_base HO g e⟩, fun e => absurd e (by decide), fun _ e => absurd rfl e⟩, fun _ _ => hown⟩
            · intro lf hlf w hB
              simp only [St.withD]
              refine St.ob_value (v := ?_) (w' := w) (by rfl) ?_ ⟨⟨fun e => absurd e (by decide), fun e => absurd e (by decide), fun e => absurd e (by decide), fun _ _ _ _ => Below.refl _ _⟩, ?_⟩
              rotate_left
              · go_simp
                with_reducible rfl
              · rfl
            · intro lf hlf w hB; rintro _ ⟨_, rfl⟩
              simp only [St.withD, List.nil_append, List.cons_append, Act.put, List.setIfInBounds_toArray, List.set_cons_zero, List.set_cons_succ]
              refine St.ob_value (v := ?_) (w' := w) (by rfl) ?_ ⟨⟨fun e => absurd e (by decide), fun e => absurd e (by decide), fun e => absurd e (by decide), fun _ _ _ _ => Below.refl _ _⟩, ?_⟩
              rotate_left
              · go_simp
                with_reducible rfl
              · rfl
            · intro lf hlf w hB; rintro _ ⟨_, rfl⟩
              simp only [St.withD, List.nil_append, List.cons_append, Act.put, List.setIfInBounds_toArray, List.set_cons_zero, List.set_cons_succ]
              refine St.ob_value (v := ?_) (w' := w) (by rfl) ?_ ⟨⟨fun e => absurd e (by decide), fun e => absurd e (by decide), fun e => absurd e (by decide), fun _ _ _ _ => Below.refl _ _⟩, ?_⟩
              rotate_left
              · go_simp
                with_reducible rfl
              · rfl
            · intro lf hlf w hB; rintro _ ⟨_, rfl⟩
              simp only [St.withD, List.nil_append, List.cons_append, Act.put, List.setIfInBounds_toArray, List.set_cons_zero, List.set_cons_succ]
              have c1 : w.cell? ⟨b, 2, none⟩ = some (.slice (ap pt) n ct) := (blk_cell (blk_below HBX.out hB.1) 2).trans rfl
              refine St.ob_value (v := .slice (ap pt) n ct) (w' := w) (by rfl) ?_ ⟨⟨fun e => absurd e (by decide), fun e => absurd e (by decide), fun e => absurd e (by decide), fun _ _ _ _ => Below.refl _ _⟩, rfl⟩
              go_simp
            · intro lf hlf w hB
              simp only [St.withD]
              refine St.ob_value (v := ?_) (w' := w) (by rfl) ?_ ⟨⟨fun e => absurd e (by decide), fun e => absurd e (by decide), fun e => absurd e (by decide), fun _ _ _ _ => Below.refl _ _⟩, ?_⟩
              rotate_left
              · go_simp
                with_reducible rfl
              · rfl
            · intro lf hlf w hB; rintro _ ⟨_, rfl⟩ _ ⟨_, rfl⟩
              simp only [St.withD, List.nil_append, List.cons_append, Act.put, List.setIfInBounds_toArray, List.set_cons_zero, List.set_cons_succ]
              refine St.ob_value (v := .slice (ap (cutp ct k 1 pt)) (n - k) (ct - k)) (w' := w) (by rfl) ?_ ⟨⟨fun e => absurd e (by decide), fun e => absurd e (by decide), fun e => absurd e (by decide), fun _ _ _ _ => Below.refl _ _⟩, rfl⟩
              go_simp
              exact ap_cutp1 _ _
            · intro lf hlf w hB; rintro v11 ⟨ds11, ht11⟩ _ ⟨_, rfl⟩
              simp only [St.withD, List.nil_append, List.cons_append, Act.put, List.setIfInBounds_toArray, List.set_cons_zero, List.set_cons_succ]
              obtain ⟨hb, e21, _, _⟩ := hB
              have HO := ht11 hlf e21
              obtain ⟨v1, w1, hrun, hown, hgr, _⟩ := ap_src (ty := 22) Try.underlying22 info3 rfl (by decide) (p := cutp ct k 1 pt) (m := n - k) (c := ct - k) HO ((HRD.out.below' hb).drop ct k 1 (by rw [HLN.out]; have := HKN.out; omega)) (by rw [List.length_drop, HLN.out]; have := HKN.out; omega) (fun u hu => tms_one _ u (List.mem_of_mem_drop hu)) (fun e => by have := HPN.out (cutp_none e); omega) (by have := HKN.out; omega) (by have := HKN.out; simp only [maxLen]; omega) (by have := HKN.out; omega) hb.size
              rw [show k + 1 + (n - k) = n + 1 by have := HKN.out; omega, HFIN.out] at hown
              exact St.ob_value (v := v1) (w' := w1) (by rfl) (append_op rfl (by rfl) (by rfl) hrun) ⟨⟨fun e => absurd e (by decide), fun _ => ⟨_, hgr, fun g e => own_base HO g e⟩, fun e => absurd e (by decide), fun _ _ e => absurd rfl e⟩, fun _ => hown⟩
            · intro lf hlf w hB; rintro _ ⟨_, rfl⟩
              simp only [St.withD, List.nil_append, List.cons_append, Act.put, List.setIfInBounds_toArray, List.set_cons_zero, List.set_cons_succ]
              refine St.ob_value (v := ?_) (w' := w) (by rfl) ?_ ⟨⟨fun e => absurd e (by decide), fun e => absurd e (by decide), fun e => absurd e (by decide), fun _ _ _ _ => Below.refl _ _⟩, ?_⟩
              rotate_left
              · go_simp
                with_reducible rfl
              · rfl
            · intro lf hlf w hB; rintro _ ⟨_, rfl⟩
              simp only [St.withD, List.nil_append, List.cons_append, Act.put, List.setIfInBounds_toArray, List.set_cons_zero, List.set_cons_succ]
              refine St.ob_value (v := ?_) (w' := w) (by rfl) ?_ ⟨⟨fun e => absurd e (by decide), fun e => absurd e (by decide), fun e => absurd e (by decide), fun _ _ _ _ => Below.refl _ _⟩, ?_⟩
              rotate_left
              · go_simp
                with_reducible rfl
              · rfl
            · intro lf hlf w hB; rintro v18 ⟨ds18, ht18⟩ _ ⟨_, rfl⟩
              simp only [St.withD, List.nil_append, List.cons_append, Act.put, List.setIfInBounds_toArray, List.set_cons_zero, List.set_cons_succ]
              obtain ⟨hb, e21, _, _⟩ := hB
              have HO := ht18 hlf
              obtain ⟨p9, c9, rfl, _⟩ := own_rdc HO
              have c1 : w.cell? ⟨b, 2, none⟩ = some (.slice (ap pt) n ct) := (blk_cell (blk_below HBX.out hb) 2).trans rfl
              have f1 := blk_frozen (blk_below HBX.out hb) 2
              refine St.ob_skip (w' := w.setCell ⟨b, 2, none⟩ (.slice (ap p9) (n + 1) c9)) (by rfl) ?_ ⟨⟨fun e => absurd e (by decide), fun e => absurd e (by decide), fun _ => ⟨_, rfl, HO⟩, fun _ _ _ e => absurd rfl e⟩, rfl⟩
              go_simp
          case hst =>
            intro i jx fl hi hj hfi hfj hcl dsx vx wa wb ht hR
            rcases (by omega : jx = 0 ∨ jx = 1 ∨ jx = 2 ∨ jx = 3 ∨ jx = 4 ∨ jx = 5 ∨ jx = 6 ∨ jx = 7 ∨ jx = 8 ∨ jx = 9 ∨ jx = 10 ∨ jx = 11 ∨ jx = 12 ∨ jx = 13 ∨ jx = 14 ∨ jx = 15 ∨ jx = 16 ∨ jx = 17 ∨ jx = 18 ∨ jx = 19 ∨ jx = 20 ∨ jx = 21) with rfl | rfl | rfl | rfl | rfl | rfl | rfl | rfl | rfl | rfl | rfl | rfl | rfl | rfl | rfl | rfl | rfl | rfl | rfl | rfl | rfl | rfl
            · exact ht
            · intro f8 f11 f18 f21
              obtain ⟨n8, g8⟩ := up_ne f8
              obtain ⟨n11, g11⟩ := up_ne f11
              obtain ⟨n18, g18⟩ := up_ne f18
              obtain ⟨n21, g21⟩ := up_ne f21
              have hme : i ≠ 1 := fun e => by subst e; rw [hfi] at hfj; cases hfj
              have ht := ht g8 g11 g18 g21
              obtain ⟨g, e1, h1, h2⟩ := ht
              exact ⟨g, e1, h1, blk_below h2 (hR.2.2.2 n8 n11 n18 n21)⟩
            · exact ht
            · exact ht
            · exact ht
            · exact ht
            · exact ht
            · exact ht
            · intro f11 f18 f21
              obtain ⟨n11, g11⟩ := up_ne f11
              obtain ⟨n18, g18⟩ := up_ne f18
              obtain ⟨n21, g21⟩ := up_ne f21
              have hme : i ≠ 8 := fun e => by subst e; rw [hfi] at hfj; cases hfj
              have ht := ht g11 g18 g21
              exact pw_own_below ht (hR.2.2.2 hme n11 n18 n21)
            · exact ht
            · intro f11 f18 f21
              obtain ⟨n11, g11⟩ := up_ne f11
              obtain ⟨n18, g18⟩ := up_ne f18
              obtain ⟨n21, g21⟩ := up_ne f21
              have hme : i ≠ 10 := fun e => by subst e; rw [hfi] at hfj; cases hfj
              have ht := ht g11 g18 g21
              obtain ⟨q, e1, h1⟩ := ht
              refine ⟨q, e1, ?_⟩
              by_cases h8 : i = 8
              · obtain ⟨g, hg, _, hgr⟩ := hR.1 h8
                exact blk_grown h1 hgr (fun e => by cases e; rw [h1] at hg; simp at hg)
              · exact blk_below h1 (hR.2.2.2 h8 n11 n18 n21)
            · intro f18 f21
              obtain ⟨n18, g18⟩ := up_ne f18
              obtain ⟨n21, g21⟩ := up_ne f21
              have hme : i ≠ 11 := fun e => by subst e; rw [hfi] at hfj; cases hfj
              have ht := ht g18 g21
              have n8 : i ≠ 8 := fun e => by subst e; have := hcl 11 8 hfj (by kernel_rfl); rw [hfi] at this; cases this
              exact pw_own_below ht (hR.2.2.2 n8 hme n18 n21)
            · exact ht
            · exact ht
            · exact ht
            · exact ht
            · exact ht
            · exact ht
            · intro f21
              obtain ⟨n21, g21⟩ := up_ne f21
              have hme : i ≠ 18 := fun e => by subst e; rw [hfi] at hfj; cases hfj
              have ht := ht g21
              have n11 : i ≠ 11 := fun e => by subst e; have := hcl 18 11 hfj (by kernel_rfl); rw [hfi] at this; cases this
              have n8 : i ≠ 8 := fun e => by subst e; have := hcl 18 11 hfj (by kernel_rfl); have := hcl 11 8 this (by kernel_rfl); rw [hfi] at this; cases this
              exact pw_own_below ht (hR.2.2.2 n8 n11 hme n21)
            · exact ht
            · exact ht
            · exact ht
          case h0 => exact ⟨fun _ => below_drew1 (Below.refl _ _), fun e => by cases e⟩
          case hB => (
            intro i lf w hi hl hd hcl h
            have hi22 : i < 22 := hi
            have hE : lf 21 = false := by
              by_cases h3 : i = 21
              · exact h3 ▸ hl
              · cases e : lf 21
                · rfl
                · have h20 := hcl 21 20 e (by kernel_rfl)
                  have := (by
                    by_cases h19 : i = 19
                    · subst h19; exact hcl 20 19 h20 (by kernel_rfl)
                    · exact hcl 21 i e (by clear hi hl hd hcl h e h20; rcases (by omega : i = 0 ∨ i = 1 ∨ i = 2 ∨ i = 3 ∨ i = 4 ∨ i = 5 ∨ i = 6 ∨ i = 7 ∨ i = 8 ∨ i = 9 ∨ i = 10 ∨ i = 11 ∨ i = 12 ∨ i = 13 ∨ i = 14 ∨ i = 15 ∨ i = 16 ∨ i = 17 ∨ i = 18 ∨ i = 20) with rfl | rfl | rfl | rfl | rfl | rfl | rfl | rfl | rfl | rfl | rfl | rfl | rfl | rfl | rfl | rfl | rfl | rfl | rfl | rfl <;> kernel_rfl) : lf i = true)
                  rw [hl] at this; cases this
            refine ⟨h.1 hE, hE, fun e => ?_, fun e => ?_⟩
            · subst e
              have e11 : lf 11 = false := by
                cases e : lf 11
                · rfl
                · have := hcl 11 8 e (by kernel_rfl); rw [hl] at this; cases this
              refine ⟨e11, ?_⟩
              cases e : lf 18
              · rfl
              · have := hcl 18 11 e (by kernel_rfl); rw [e11] at this; cases this
            · subst e
              cases e : lf 18
              · rfl
              · have := hcl 18 11 e (by kernel_rfl); rw [hl] at this; cases this)
          case hG => (
            intro i lf wa wb hi hl hd hcl h hR
            have hi22 : i < 22 := hi
            have hE : i ≠ 21 → lf 21 = false := fun h3 => by
              cases e : lf 21
              · rfl
              · have h20 := hcl 21 20 e (by kernel_rfl)
                have := (by
                  by_cases h19 : i = 19
                  · subst h19; exact hcl 20 19 h20 (by kernel_rfl)
                  · exact hcl 21 i e (by clear hi hl hd hcl h hR e h20; rcases (by omega : i = 0 ∨ i = 1 ∨ i = 2 ∨ i = 3 ∨ i = 4 ∨ i = 5 ∨ i = 6 ∨ i = 7 ∨ i = 8 ∨ i = 9 ∨ i = 10 ∨ i = 11 ∨ i = 12 ∨ i = 13 ∨ i = 14 ∨ i = 15 ∨ i = 16 ∨ i = 17 ∨ i = 18 ∨ i = 20) with rfl | rfl | rfl | rfl | rfl | rfl | rfl | rfl | rfl | rfl | rfl | rfl | rfl | rfl | rfl | rfl | rfl | rfl | rfl | rfl <;> kernel_rfl) : lf i = true)
                rw [hl] at this; cases this
            have h21 : lf 21 = false := by
              by_cases h3 : i = 21
              · exact h3 ▸ hl
              · exact hE h3
            have hb := h.1 h21
            by_cases h3 : i = 21
            · subst h3
              obtain ⟨v, rfl, hv⟩ := hR.2.2.1 rfl
              refine ⟨fun e => (by simp [St.upB] at e), fun _ => ⟨v, blk_put (blk_below HBX.out hb) 2 v rfl, own_setCell hv (fun e => by have := own_base hv b e.symm; have := HBL.out; omega) v, (Ch.of_below hb).set rfl⟩⟩
            · have a21 : St.upB lf i 21 = lf 21 := by unfold St.upB; rw [if_neg (Ne.symm h3)]
              rw [a21, h21]
              refine ⟨fun _ => ?_, fun e => (by cases e)⟩
              by_cases h8 : i = 8
              · obtain ⟨g, _, hg, hgr⟩ := hR.1 h8
                exact hb.grown hgr hb.size (fun k e => by cases e; exact hg)
              · by_cases h11 : i = 11 ∨ i = 18
                · obtain ⟨q, hgr, hq⟩ := hR.2.1 h11
                  exact hb.grown hgr hb.size hq
                · exact below_step hb (hR.2.2.2 h8 (fun e => h11 (.inl e)) (fun e => h11 (.inr e)) h3))
          case hend =>
            intro fl w hall hB
            rintro _ rfl v1 ht1 _ rfl _ rfl _ rfl _ rfl _ rfl _ rfl v8 ht8 _ rfl v10 ht10 v11 ht11 _ rfl _ rfl _ rfl _ rfl _ rfl _ rfl v18 ht18 _ rfl _ rfl _ rfl
            simp only [List.map_cons, List.map_nil, List.nil_append, List.cons_append, List.getD_cons_zero, List.getD_cons_succ, Act.put, List.setIfInBounds_toArray, List.set_cons_zero, List.set_cons_succ]
            rw [St.withE_nil]
            have h21 := hall 21 (by decide)
            have HPO := Aside0.mk (hB.2 h21)
            clear hB hall ht1 ht8 ht10 ht11 ht18
            have HV1' := HV1
            obtain ⟨v8, hb8, hr8, hc8⟩ := HPO.out
            obtain ⟨p2, c2, rfl, hle2, hrd2, hob2, hnn2⟩ := own_rdc hr8
            have HF : Aside0 (RPutPost B b now D2 w0 (.returned (.bool true)) w) := ⟨by
              have hcc : Ch (fun i => i = b) w0 w := HA1.out.2.2.2.2.trans hc8
              rw [← HV1.out, ← HD2.out.1] at hb8
              have hbb : b < w0.heap.size := HWB.out.2
              refine ⟨p1, p2, c1, c2, rfl, ⟨hb8, HA1.out.1.ch hc8 (fun q e => by have := (HA1.out.2.2.1 q e).1; omega), hrd2, by rw [HD2.out.1]; exact HA1.out.2.1, by rw [HD2.out.1]; exact hle2, fun q e => ?_, fun q e => ?_, HA1.out.2.2.2.1, hnn2, HWB.out.1.2⟩, hcc, fun q e => (HA1.out.2.2.1 q e).1, fun q e => ?_⟩
              · have h1 := (HA1.out.2.2.1 q e)
                have h2 := hc8.size
                have h3 := HWB.out.1.1
                omega
              · have h1 := own_base hr8 q.1 (hob2 q e)
                have h2 := own_lt hr8 q.1 (hob2 q e)
                have h3 := HWB.out.1.1
                have h4 := HA1.out.2.2.2.2.size
                omega
              · have h1 := own_base hr8 q.1 (hob2 q e)
                have h4 := HA1.out.2.2.2.2.size
                omega⟩
            clear hb8 hr8 hc8 hle2 hrd2 hob2 hnn2 HPO HA1 HV1 HV1' HBX
            go_wp2
            go_ret
            exact HF.out
end
end Go.Proofs.Ytfijbhacobjjgag
