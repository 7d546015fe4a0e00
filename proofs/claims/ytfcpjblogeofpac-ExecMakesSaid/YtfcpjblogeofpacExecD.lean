/- The contract of exec's Run. -/
import Derived.Test.YtfcpjblogeofpacExecC
import Derived.Test.YtfcpjblogeofpacOpen
namespace Go.Proofs.Ytfcpjblogeofpac
open Go.RowKit Go.Proofs.YtfcpjblogeofpacW.PrintWords Go.Proofs.YtfcpjblogeofpacW.PrintLast Go.Proofs.YtfcpjblogeofpacW.PrintMore Go.Proofs.Ytfcpjblogeofpac.Fr
set_option linter.unusedVariables false
set_option linter.unusedSimpArgs false
attribute [local go_sem] max2_int min2_int max_two min_two

open Go.Proofs.Ytfcpjblogeofpac.Pl
def toS (b : Bs) : ByteArray := ⟨b.toArray⟩
theorem strOf_bi (b : Bs) : strOfNums (bi b) = toS b := by
  unfold strOfNums toS bi
  congr 1
  apply Array.ext'
  simp [Function.comp_def]
theorem toS_list (b : Bs) : (toS b).data.toList = b := by simp [toS]
theorem ext_rest (L : ByteArray) (n : Nat) : (L.extract n L.size).data.toList = L.data.toList.drop n := by
  have h : L.data.toList.length = L.size := data_length L
  rw [ByteArray.data_extract, Array.toList_extract]
  simp only [List.extract_eq_take_drop]
  rw [List.take_of_length_le (by rw [List.length_drop]; omega)]
theorem dummy_limOf : True := trivial
def limOf (limit : Int) : Int := if limit < 0 then 0 else limit
def RunPost (D L : ByteArray) (xs : List Stp) (limit : Int) (w0 : World) (e : Ending) (w' : World) : Prop := e = .returned (.tuple #[.string (toS (run D.size (limOf limit) xs D.data.toList L.data.toList).1), .int .i64 (run D.size (limOf limit) xs D.data.toList L.data.toList).2]) ∧ Below w0.heap.size w0 w'
/-- The steps, handed in. -/
def Steps (w : World) (A : Option Addr) (xs : List Stp) : Prop := ∀ k, k < xs.length → ∃ (ad : Addr), A = some ad ∧ w.cell? (ad.add (k * 3)) = some (.int .i64 (xs.getD k (0, 0, 0)).1) ∧ w.cell? (ad.add (k * 3 + 1)) = some (.int .i64 (xs.getD k (0, 0, 0)).2.1) ∧ w.cell? (ad.add (k * 3 + 2)) = some (.int .i64 (xs.getD k (0, 0, 0)).2.2)
theorem Steps.below {w w1 : World} {A : Option Addr} {xs : List Stp} (h : Steps w A xs) (hb : Below w.heap.size w w1) : Steps w1 A xs := fun k hk => by
  obtain ⟨ad, e, h0, h1, h2⟩ := h k hk
  exact ⟨ad, e, pw_cell_below hb h0, pw_cell_below hb h1, pw_cell_below hb h2⟩
theorem drop_get (xs : List Stp) (k : Nat) (h : k < xs.length) : xs.drop k = xs.getD k (0, 0, 0) :: xs.drop (k + 1) := by
  rw [List.drop_eq_getElem_cons h]
  simp [List.getD_eq_getElem?_getD, h]
set_option maxRecDepth 100000 in
set_option maxHeartbeats 8000000 in
theorem run_any (D L0 : ByteArray) (A0 : Option Addr) (cap : Nat) (xs : List Stp) (limit : Int) (w0 : World) (hD : D.size ≤ 1000) (hL0 : L0.size ≤ 1000) (hxl : xs.length ≤ 1000) (hlim : limit ≤ 1000) (hS : Steps w0 A0 xs) :
    Calls Try.prog 7 #[.string D, .string L0, .slice A0 xs.length cap, .int .i64 limit] w0 (RunPost D L0 xs limit w0) := by
  have kb := fun W => print_bytes (P := Try.prog) 9 39 5 Try.underlying9 Try.underlying39 Try.underlying5 D W
  obtain ⟨lim, hlm⟩ : ∃ lim, limOf limit = lim := ⟨_, rfl⟩
  have hmax : (if limit < 0 then 0 else limit) = lim := hlm
  have hlim0 : 0 ≤ lim := by rw [← hmax]; split <;> omega
  have hlim1 : lim ≤ 1000 := by rw [← hmax]; split <;> omega
  obtain ⟨RES, hres⟩ : ∃ RES, run D.size lim xs D.data.toList L0.data.toList = RES := ⟨_, rfl⟩
  have HRES := Aside0.mk hres
  have HPOST : Aside0 (∀ e w', (e = .returned (.tuple #[.string (toS RES.1), .int .i64 RES.2]) ∧ Below w0.heap.size w0 w') → RunPost D L0 xs limit w0 e w') := ⟨fun e w' h => by unfold RunPost; rw [hlm, hres]; exact h⟩
  have HS := Aside0.mk hS
  obtain ⟨ah, hah⟩ : ∃ ah, D.size = ah := ⟨_, rfl⟩
  clear hlm hres hS
  refine Calls.mono (R := fun e w' => e = .returned (.tuple #[.string (toS RES.1), .int .i64 RES.2]) ∧ Below w0.heap.size w0 w') ?_ HPOST.out
  clear HPOST
  go_enter Try.func7, Try.ntmps7
  go_wp2_with fail
  have HT0 : Aside0 (TX w0 ((Lib.bytesWorld w0 5 D).alloc (.cells #[.slice (some ⟨w0.heap.size, 0, none⟩) ah (grownCap w0 ah 0 5), .int .i64 ah, .int .i64 lim] 41)) (Lib.bytesWorld w0 5 D).heap.size (.slice (some ⟨w0.heap.size, 0, none⟩) ah (grownCap w0 ah 0 5)) D.data.toList ah lim) := ⟨by
    have h1 := MRow.bytes w0 5 D (by omega)
    rw [hah] at h1
    have h2 := bytes_below (Below.refl w0.heap.size w0) (Nat.le_refl _) 5 D
    exact ⟨blk_new _ _, h1.below (below_alloc (Below.refl _ _) _), below_then h2 h2.size (below_alloc (Below.refl _ _) _), h2.size⟩⟩
  generalize (Lib.bytesWorld w0 5 D).alloc (.cells #[.slice (some ⟨w0.heap.size, 0, none⟩) ah (grownCap w0 ah 0 5), .int .i64 ah, .int .i64 lim] 41) = W at HT0 ⊢
  generalize (Lib.bytesWorld w0 5 D).heap.size = g at HT0 ⊢
  generalize Value.slice (some ⟨w0.heap.size, 0, none⟩) ah (grownCap w0 ah 0 5) = v0 at HT0 ⊢
  have HAH : Aside0 (D.data.toList.length = ah) := ⟨(data_length D).trans hah⟩
  rw [hah] at HRES
  clear kb hmax hah
  go_loopg [1, 25] xs.length (fun gk x y wr => ∃ (k : Nat) (L : ByteArray) (b : Bs) (v : Value), Aside0 (k + gk = xs.length) ∧ x = .string L ∧ y = .int .i64 k ∧ Aside0 (TX w0 wr g v b ah lim) ∧ Aside0 (run ah lim (xs.drop k) b L.data.toList = RES ∧ L.size ≤ 1000 ∧ ah ≤ b.length ∧ (b.length : Int) - ah ≤ lim ∧ ah ≤ 1000))
  case atStart => exact ⟨0, L0, D.data.toList, v0, ⟨by omega⟩, rfl, rfl, HT0, ⟨HRES.out, hL0, by have := HAH.out; omega, by have := HAH.out; omega, by have := HAH.out; have := data_length D; omega⟩⟩
  case round =>
    clear HT0
    obtain ⟨k, L, b, v, HK, rfl, rfl, HT, HI⟩ := hrel
    obtain ⟨hrun, hLs, hab, hbl, hah1⟩ := HI.out
    have hLL : L.data.toList.length = L.size := data_length L
    by_cases hlt : k < xs.length
    · obtain ⟨ad, rfl, hc0, hc1, hc2⟩ := (HS.out.below HT.out.bel) k hlt
      obtain ⟨s1, s2, s3, hs⟩ : ∃ s1 s2 s3, xs.getD k (0, 0, 0) = (s1, s2, s3) := ⟨_, _, _, rfl⟩
      rw [drop_get xs k hlt, hs] at hrun
      rw [hs] at hc0 hc1 hc2
      simp only at hc0 hc1 hc2
      rw [← add_add, cell_off _ (by decide)] at hc1 hc2
      simp only [run] at hrun
      rw [hLL] at hrun
      have HRUN := Aside0.mk hrun
      have HLL := Aside0.mk hLL
      clear hrun hs hLL
      have HT2 : Aside0 (TX w0 (wr.alloc (.cells #[.int .i64 s1, .int .i64 s2, .int .i64 s3] 37)) g v b ah lim) := ⟨HT.out.below (below_alloc (Below.refl _ _) _)⟩
      by_cases c1 : s1 < 0 ∨ (L.size : Int) < s1
      · have HE : Aside0 (RES = ([], 3)) := ⟨by have h := HRUN.out; rw [if_pos c1] at h; exact h.symm⟩
        go_wp2_with fail
        generalize wr.alloc (.cells #[.int .i64 s1, .int .i64 s2, .int .i64 s3] 37) = W2 at HT2 ⊢
        refine (step_bad L s1 s2 s3 HT2.out c1).mono ?_
        rintro e w5 ⟨rfl, hb5⟩
        have HB5 := Aside0.mk hb5
        clear hb5
        go_wp2
        go_ret2
        exact ⟨by first | (rw [HE.out]; done) | (rw [HE.out]; rfl), HB5.out⟩
      · have h10 : 0 ≤ s1 := by omega
        have h11 : s1 ≤ (L.size : Int) := by omega
        (have h := HRUN.out); (rw [if_neg c1] at h); (have HRUN2 := Aside0.mk h); clear h
        clear HRUN c1
        by_cases c2 : s1 ≤ lim - ((b.length : Int) - ah)
        · (have h := HRUN2.out); (rw [if_neg (not_not_intro c2)] at h); (have HRUN3 := Aside0.mk h); clear h
          clear HRUN2
          obtain ⟨ln, rfl⟩ : ∃ ln : Nat, s1 = (ln : Int) := ⟨s1.toNat, by omega⟩
          have hr1 : roomB b ah lim (ln : Int) = true := decide_eq_true c2
          rw [Int.toNat_natCast] at HRUN3
          have hl2 : (b ++ L.data.toList.take ln).length = b.length + ln := by rw [List.length_append, List.length_take]; have := HLL.out; omega
          rw [hl2] at HRUN3
          have HR1 := Aside0.mk hr1
          have HL2 := Aside0.mk hl2
          clear hr1 hl2
          by_cases c3 : s2 < 3 ∨ s3 < 1 ∨ ((b.length + ln : Nat) : Int) < s3
          · have HE : Aside0 (RES = ([], 3)) := ⟨by have h := HRUN3.out; rw [if_pos c3] at h; exact h.symm⟩
            go_wp2_with fail
            generalize wr.alloc (.cells #[.int .i64 (ln : Int), .int .i64 s2, .int .i64 s3] 37) = W2 at HT2 ⊢
            refine (step_bad2 L ln s2 s3 HT2.out hLs (by omega) (by omega) hlim0 hlim1 (by omega) HR1.out c3).mono ?_
            rintro e w5 ⟨rfl, hb5⟩
            have HB5 := Aside0.mk hb5
            clear hb5
            go_wp2
            go_ret2
            exact ⟨by first | (rw [HE.out]; done) | (rw [HE.out]; rfl), HB5.out⟩
          · (have h := HRUN3.out); (rw [if_neg c3] at h); (have HRUN4 := Aside0.mk h); clear h
            clear HRUN3
            by_cases c4 : s2 ≤ lim - (((b.length + ln : Nat) : Int) - ah)
            · (have h := HRUN4.out); (rw [if_neg (not_not_intro c4)] at h); (have HRUN5 := Aside0.mk h); clear h
              clear HRUN4
              obtain ⟨mn, hmn⟩ : ∃ mn : Nat, s2 = (mn : Int) := ⟨s2.toNat, by omega⟩
              obtain ⟨on, hon⟩ : ∃ on : Nat, s3 = (on : Int) := ⟨s3.toNat, by omega⟩
              have HX : Aside0 (run ah lim (xs.drop (k + 1)) (cop on mn (b ++ L.data.toList.take ln)) (L.extract ln L.size).data.toList = RES) := ⟨by rw [ext_rest]; have h := HRUN5.out; rw [hmn, hon, Int.toNat_natCast, Int.toNat_natCast] at h; exact h⟩
              have hr2 : roomB (b ++ L.data.toList.take ln) ah lim s2 = true := by unfold roomB; rw [HL2.out]; exact decide_eq_true c4
              have hc : 3 ≤ mn ∧ 1 ≤ on ∧ on ≤ b.length + ln := by omega
              have hbnd : ((b.length + ln + mn : Nat) : Int) - ah ≤ lim := by omega
              have HC := Aside0.mk (And.intro hmn (And.intro hon (And.intro hc hr2)))
              clear HRUN5 hmn hon hr2 hc
              go_wp2_with fail
              generalize wr.alloc (.cells #[.int .i64 (ln : Int), .int .i64 s2, .int .i64 s3] 37) = W2 at HT2 ⊢
              refine (step_ok L ln s2 s3 HT2.out hLs (by omega) (by omega) hlim0 hlim1 (by omega) HR1.out mn on HC.out.1 HC.out.2.1 HC.out.2.2.1 HC.out.2.2.2).mono ?_
              rintro e w5 ⟨v5, rfl, ht5⟩
              have HT5 := Aside0.mk ht5
              clear ht5
              go_wp2
              go_roundg (gk - 1)
              case measure => have := HK.out; omega
              case rel => exact ⟨k + 1, _, _, v5, ⟨by have := HK.out; omega⟩, rfl, by go_num, HT5, ⟨HX.out, by rw [ByteArray.size_extract]; omega, by rw [cop_length, HL2.out]; omega, by rw [cop_length, HL2.out]; exact hbnd, hah1⟩⟩
            · have hr2 : Aside0 (roomB (b ++ L.data.toList.take ln) ah lim s2 = false) := ⟨by unfold roomB; rw [HL2.out]; exact decide_eq_false c4⟩
              have hc : 3 ≤ s2 ∧ 1 ≤ s3 ∧ s3 ≤ ((b.length + ln : Nat) : Int) := by omega
              have HE : Aside0 (RES = ([], 5)) := ⟨by have h := HRUN4.out; rw [if_pos c4] at h; exact h.symm⟩
              go_wp2_with fail
              generalize wr.alloc (.cells #[.int .i64 (ln : Int), .int .i64 s2, .int .i64 s3] 37) = W2 at HT2 ⊢
              refine (step_long2 L ln s2 s3 HT2.out hLs (by omega) (by omega) hlim0 hlim1 (by omega) HR1.out hc hr2.out).mono ?_
              rintro e w5 ⟨rfl, hb5⟩
              have HB5 := Aside0.mk hb5
              clear hb5
              go_wp2
              go_ret2
              exact ⟨by first | (rw [HE.out]; done) | (rw [HE.out]; rfl), HB5.out⟩
        · have hr1 : Aside0 (roomB b ah lim s1 = false) := ⟨decide_eq_false c2⟩
          have HE : Aside0 (RES = ([], 5)) := ⟨by have h := HRUN2.out; rw [if_pos c2] at h; exact h.symm⟩
          go_wp2_with fail
          generalize wr.alloc (.cells #[.int .i64 s1, .int .i64 s2, .int .i64 s3] 37) = W2 at HT2 ⊢
          refine (step_long L s1 s2 s3 HT2.out h10 h11 hr1.out (by omega) (by omega) hlim0 hlim1).mono ?_
          rintro e w5 ⟨rfl, hb5⟩
          have HB5 := Aside0.mk hb5
          clear hb5
          go_wp2
          go_ret2
          exact ⟨by first | (rw [HE.out]; done) | (rw [HE.out]; rfl), HB5.out⟩
    · have hk2 : k = xs.length := by have := HK.out; omega
      have HRUN : Aside0 ((if (L.data.toList.length : Int) ≤ lim - ((b.length : Int) - ah) then ((b ++ L.data.toList).drop ah, (0 : Int)) else ([], 5)) = RES) := ⟨by
        rw [hk2, List.drop_length] at hrun
        exact hrun⟩
      rw [hLL] at HRUN
      have HLL := Aside0.mk hLL
      clear hk2 hrun hLL
      by_cases c1 : (L.size : Int) ≤ lim - ((b.length : Int) - ah)
      · have hr : Aside0 (roomB b ah lim (L.size : Int) = true) := ⟨decide_eq_true c1⟩
        obtain ⟨b2, hb2⟩ : ∃ b2, b ++ L.data.toList = b2 := ⟨_, rfl⟩
        have HE : Aside0 (RES = (b2.drop ah, 0)) := ⟨by have h := HRUN.out; rw [if_pos c1, hb2] at h; exact h.symm⟩
        have hb2l : b2.length = b.length + L.size := by rw [← hb2, List.length_append, HLL.out]
        have HB2L := Aside0.mk hb2l
        have HB2 := Aside0.mk hb2
        have hb2a : ah ≤ b2.length := by omega
        obtain ⟨S0, hS0⟩ : ∃ S0, toS (b2.drop ah) = S0 := ⟨_, rfl⟩
        obtain ⟨rl, hrl⟩ : ∃ rl, (bi b2).drop (ah : Int).toNat = rl := ⟨_, rfl⟩
        have HRL := Aside0.mk hrl
        have HST : Aside0 (strOfNums rl = S0) := ⟨by
          rw [← hrl, Int.toNat_natCast, ← hS0, ← strOf_bi]
          congr 1
          simp [bi]⟩
        clear hrl
        have HS0 : Aside0 (toS RES.1 = S0 ∧ RES.2 = 0) := ⟨by rw [HE.out]; exact ⟨hS0, rfl⟩⟩
        clear hb2 hb2l hS0
        go_wp2_with fail
        refine (room_any (L.size : Int) HT.out (by omega) (by omega) hlim0 (by omega)).mono ?_
        rintro e w5 ⟨rfl, hd5⟩
        rw [hr.out]
        have HT2 := Aside0.mk (HT.out.below hd5.below)
        clear hd5 HT
        have HT := HT2
        clear HT2
        obtain ⟨A, c, hv, _, _⟩ := HT.out.shape
        have HSH := Aside0.mk hv
        have c0 : w5.cell? ⟨g, 0, none⟩ = some (.slice A b.length c) := hv ▸ (blk_cell HT.out.box 0).trans rfl
        clear hv
        go_wp2
        clear c0
        refine St.steadyG (n := 14) (by kernel_rfl) ([] :: [(0, 46)] :: [(1, 47)] :: [(2, 48)] :: [] :: [(3, 49), (4, 50)] :: [] :: [(6, 52)] :: [(7, 53)] :: [(8, 54)] :: [(5, 51), (9, 55)] :: [(10, 56)] :: [(11, 57)] :: [] :: []) (some 46 :: some 47 :: some 48 :: some 49 :: some 50 :: some 51 :: some 52 :: some 53 :: some 54 :: some 55 :: some 56 :: some 57 :: some 8 :: some 9 :: []) (by kernel_rfl) ((St.eqT ?c12_0x3) :: (St.eqT ?c12_1x3) :: (St.eqT ?c12_2x3) :: (St.eqT ?c12_3x3) :: (St.eqT ?c12_4x3) :: (fun _ u w => MRow w w0.heap.size 5 u (nums .u8 (bi (b2)))) :: (St.eqT ?c12_6x3) :: (St.eqT ?c12_7x3) :: (St.eqT ?c12_8x3) :: (St.eqT ?c12_9x3) :: (fun _ u w => ∃ A9 c9, u = .slice A9 rl.length c9 ∧ ReadsInt w .u8 A9 rl.length rl) :: (St.eqT ?c12_11x3) :: (St.eqT ?c12_12x3) :: (St.eqT ?c12_13x3) :: []) rfl (by rfl) (fun fl w' => w'.heap[g]? = some (.cells #[v, .int .i64 ah, .int .i64 lim] 41 (0, 0)) ∧ (fl 5 = false → MRow w' w0.heap.size 5 v (nums .u8 (bi (b)))) ∧ Below w0.heap.size w0 w') (fun i wa wb => (i = 5 → wa.grownBy wb v.ownBlock) ∧ (i ≠ 5 → wa = wb)) ?hst ?h0 (fun i w' => w'.heap[g]? = some (.cells #[v, .int .i64 ah, .int .i64 lim] 41 (0, 0)) ∧ (i = 5 → MRow w' w0.heap.size 5 v (nums .u8 (bi (b)))) ∧ Below w0.heap.size w0 w') ?hB ?hG ?hop ?hend
        case hop =>
          refine ⟨?_, ?_, ?_, ?_, ?_, ?_, ?_, ?_, ?_, ?_, ?_, ?_, ?_, ?_, trivial⟩
          · intro w hB
            simp only [St.withD]
            refine St.ob_value (v := ?_) (w' := w) (by rfl) ?_ ⟨⟨fun e => absurd e (by decide), fun _ => rfl⟩, ?_⟩
            rotate_left
            · go_simp
              with_reducible rfl
            · rfl
          · intro w hB; rintro _ ⟨_, rfl⟩
            simp only [St.withD, List.nil_append, List.cons_append, Act.put, List.setIfInBounds_toArray, List.set_cons_zero, List.set_cons_succ]
            refine St.ob_value (v := ?_) (w' := w) (by rfl) ?_ ⟨⟨fun e => absurd e (by decide), fun _ => rfl⟩, ?_⟩
            rotate_left
            · go_simp
              with_reducible rfl
            · rfl
          · intro w hB; rintro _ ⟨_, rfl⟩
            simp only [St.withD, List.nil_append, List.cons_append, Act.put, List.setIfInBounds_toArray, List.set_cons_zero, List.set_cons_succ]
            refine St.ob_value (v := ?_) (w' := w) (by rfl) ?_ ⟨⟨fun e => absurd e (by decide), fun _ => rfl⟩, ?_⟩
            rotate_left
            · go_simp
              with_reducible rfl
            · rfl
          · intro w hB; rintro _ ⟨_, rfl⟩
            simp only [St.withD, List.nil_append, List.cons_append, Act.put, List.setIfInBounds_toArray, List.set_cons_zero, List.set_cons_succ]
            obtain ⟨hbx, _, _⟩ := hB
            have c0 : w.cell? ⟨g, 0, none⟩ = some (.slice A b.length c) := (blk_cell hbx 0).trans (congrArg some HSH.out)
            have c1 : w.cell? ⟨g, 1, none⟩ = some (.int .i64 ah) := (blk_cell hbx 1).trans rfl
            refine St.ob_value (v := ?_) (w' := w) (by rfl) ?_ ⟨⟨fun e => absurd e (by decide), fun _ => rfl⟩, ?_⟩
            rotate_left
            · go_simp
              with_reducible rfl
            · rfl
          · intro w hB
            simp only [St.withD]
            refine St.ob_value (v := ?_) (w' := w) (by rfl) ?_ ⟨⟨fun e => absurd e (by decide), fun _ => rfl⟩, ?_⟩
            rotate_left
            · go_simp
              with_reducible rfl
            · rfl
          · intro w hB; rintro _ ⟨_, rfl⟩ _ ⟨_, rfl⟩
            simp only [St.withD, List.nil_append, List.cons_append, Act.put, List.setIfInBounds_toArray, List.set_cons_zero, List.set_cons_succ]
            obtain ⟨v1, w1, hrun, hrow1, hgr⟩ := run_append_Ms (P := Try.prog) w w0.heap.size 39 9 39 5 Try.underlying39 Try.underlying9 info5 (hB.2.1 rfl) L (by rw [nums_length, bi_length]; omega) hB.2.2.size
            rw [HSH.out] at hrun
            rw [nums_bytes, show bytesOf L = bi L.data.toList from rfl, ← bi_append, HB2.out] at hrow1
            exact St.ob_value (v := v1) (w' := w1) (by rfl) (append_op2 rfl rfl rfl hrun) ⟨⟨fun _ => hgr, fun h => absurd rfl h⟩, hrow1⟩
          · intro w hB
            simp only [St.withD]
            refine St.ob_value (v := ?_) (w' := w) (by rfl) ?_ ⟨⟨fun e => absurd e (by decide), fun _ => rfl⟩, ?_⟩
            rotate_left
            · go_simp
              with_reducible rfl
            · rfl
          · intro w hB; rintro _ ⟨_, rfl⟩
            simp only [St.withD, List.nil_append, List.cons_append, Act.put, List.setIfInBounds_toArray, List.set_cons_zero, List.set_cons_succ]
            refine St.ob_value (v := ?_) (w' := w) (by rfl) ?_ ⟨⟨fun e => absurd e (by decide), fun _ => rfl⟩, ?_⟩
            rotate_left
            · go_simp
              with_reducible rfl
            · rfl
          · intro w hB; rintro _ ⟨_, rfl⟩
            simp only [St.withD, List.nil_append, List.cons_append, Act.put, List.setIfInBounds_toArray, List.set_cons_zero, List.set_cons_succ]
            refine St.ob_value (v := ?_) (w' := w) (by rfl) ?_ ⟨⟨fun e => absurd e (by decide), fun _ => rfl⟩, ?_⟩
            rotate_left
            · go_simp
              with_reducible rfl
            · rfl
          · intro w hB; rintro _ ⟨_, rfl⟩
            simp only [St.withD, List.nil_append, List.cons_append, Act.put, List.setIfInBounds_toArray, List.set_cons_zero, List.set_cons_succ]
            obtain ⟨hbx, _, _⟩ := hB
            have c0 : w.cell? ⟨g, 0, none⟩ = some (.slice A b.length c) := (blk_cell hbx 0).trans (congrArg some HSH.out)
            have c1 : w.cell? ⟨g, 1, none⟩ = some (.int .i64 ah) := (blk_cell hbx 1).trans rfl
            refine St.ob_value (v := ?_) (w' := w) (by rfl) ?_ ⟨⟨fun e => absurd e (by decide), fun _ => rfl⟩, ?_⟩
            rotate_left
            · go_simp
              with_reducible rfl
            · rfl
          · intro w hB; rintro v5 ⟨ds5, ht5⟩ _ ⟨_, rfl⟩
            simp only [St.withD, List.nil_append, List.cons_append, Act.put, List.setIfInBounds_toArray, List.set_cons_zero, List.set_cons_succ]
            obtain ⟨A5, c5, rfl, hc5, hr5⟩ := ht5.reads
            obtain ⟨i5, hi5, hz5⟩ := Option.map_eq_some_iff.1 info5
            simp only [Prod.mk.injEq] at hz5
            obtain ⟨A9, hrun9, hrd9, _⟩ := print_drop_of (P := Try.prog) (Value.int .u8) (0 : Int) 39 5 .i64 Try.underlying39 hi5 hz5.2.1 A5 c5 (bi b2) (ah : Int) (by omega) (by rw [bi_length]; omega) hc5
            rw [HRL.out] at hrun9 hrd9
            refine St.ob_value (v := .slice A9 rl.length (c5 - (ah : Int).toNat)) (w' := w) (by rfl) ?_ ⟨⟨fun e => absurd e (by decide), fun _ => rfl⟩, _, _, rfl, hrd9 w hr5⟩
            have hrun9 := hrun9 w
            go_simp
          · intro w hB; rintro v10 ⟨ds10, ht10⟩
            simp only [St.withD, List.nil_append, List.cons_append, Act.put, List.setIfInBounds_toArray, List.set_cons_zero, List.set_cons_succ]
            obtain ⟨A9, c9, rfl, hr9⟩ := ht10
            have hcv := string_of_reads (P := Try.prog) (c := c9) Try.underlying39 Try.underlying5 Try.underlying9 hr9
            rw [HST.out] at hcv
            refine St.ob_value (v := .string S0) (w' := w) (by rfl) ?_ ⟨⟨fun e => absurd e (by decide), fun _ => rfl⟩, ?_⟩
            · go_simp
            · rfl
          · intro w hB; rintro _ ⟨_, rfl⟩
            simp only [St.withD, List.nil_append, List.cons_append, Act.put, List.setIfInBounds_toArray, List.set_cons_zero, List.set_cons_succ]
            refine St.ob_value (v := ?_) (w' := w) (by rfl) ?_ ⟨⟨fun e => absurd e (by decide), fun _ => rfl⟩, ?_⟩
            rotate_left
            · go_simp
              with_reducible rfl
            · rfl
          · intro w hB
            simp only [St.withD]
            refine St.ob_value (v := ?_) (w' := w) (by rfl) ?_ ⟨⟨fun e => absurd e (by decide), fun _ => rfl⟩, ?_⟩
            rotate_left
            · go_simp
              with_reducible rfl
            · rfl
        case hst =>
          intro i jx fl hi hj hfi hfj hcl dsx vx wa wb ht hR
          refine St.sts_get (Rel := fun jj wa wb => fl jj = true ∧ (fun i wa wb => (i = 5 → wa.grownBy wb v.ownBlock) ∧ (i ≠ 5 → wa = wb)) i wa wb) 0 _ jx (by simpa using hj) ?_ dsx vx wa wb ht ⟨by simpa using hfj, hR⟩
          refine ⟨St.eqT_st, St.eqT_st, St.eqT_st, St.eqT_st, St.eqT_st, ?_, St.eqT_st, St.eqT_st, St.eqT_st, St.eqT_st, ?_, St.eqT_st, St.eqT_st, St.eqT_st, trivial⟩
          · intro dsx vx wa wb h hR
            have hfj : fl 5 = true := hR.1
            have hR := hR.2
            by_cases h2 : i = 5
            · subst h2; rw [hfi] at hfj; cases hfj
            · have e2 := hR.2 h2
              subst e2
              exact h
          · intro dsx vx wa wb h hR
            have hfj : fl 10 = true := hR.1
            have hR := hR.2
            by_cases h2 : i = 5
            · subst h2; have := hcl 10 5 hfj (by kernel_rfl); rw [hfi] at this; cases this
            · have e2 := hR.2 h2
              subst e2
              exact h
        case h0 => exact ⟨HT.out.box, fun _ => HT.out.row, below_drew HT.out.bel⟩
        case hB => exact fun i fl w' hi hfi _ _ hG => ⟨hG.1, fun e => hG.2.1 (by subst e; exact hfi), hG.2.2⟩
        case hG => (
          intro i fl wa wb hi hfi hdn hcl hGG hR
          obtain ⟨g1, g2, g3⟩ := hGG
          by_cases h2 : i = 5
          · subst h2
            have hR := hR.1 rfl
            have hrow := g2 hfi
            refine ⟨blk_grown g1 hR (mrow_ne g1 hrow (by decide)), fun e => ?_, g3.grown hR g3.size (fun k hk => (hrow.blk hk).1)⟩
            simp [St.upB] at e
          · have e := hR.2 h2
            subst e
            have e3 : St.upB fl i 5 = fl 5 := by unfold St.upB; rw [if_neg (Ne.symm h2)]
            exact ⟨g1, fun e => g2 (e3 ▸ e), g3⟩)
        case hend =>
          intro fl w hall hB
          rintro _ rfl _ rfl _ rfl _ rfl _ rfl v5 ht5 _ rfl _ rfl _ rfl _ rfl v10 ht10 _ rfl _ rfl _ rfl
          simp only [List.map_cons, List.map_nil, List.nil_append, List.cons_append, List.getD_cons_zero, List.getD_cons_succ, Act.put, List.setIfInBounds_toArray, List.set_cons_zero, List.set_cons_succ]
          rw [St.withE_nil]
          have HB9 := Aside0.mk hB.2.2
          clear ht5 ht10 hB hall
          go_wp2
          go_ret2
          exact ⟨by rw [HS0.out.1, HS0.out.2]; rfl, HB9.out⟩
      · have hr : Aside0 (roomB b ah lim (L.size : Int) = false) := ⟨decide_eq_false c1⟩
        have HE : Aside0 (RES = ([], 5)) := ⟨by have h := HRUN.out; rw [if_neg c1] at h; exact h.symm⟩
        go_wp2_with fail
        refine (room_any (L.size : Int) HT.out (by omega) (by omega) hlim0 (by omega)).mono ?_
        rintro e w5 ⟨rfl, hd5⟩
        rw [hr.out]
        have HB5 := Aside0.mk (below_step HT.out.bel hd5.below)
        clear hd5
        go_wp2
        go_ret2
        exact ⟨by first | (rw [HE.out]; done) | (rw [HE.out]; rfl), HB5.out⟩
end Go.Proofs.Ytfcpjblogeofpac
