/- The walk of StateFalls: it answers true. -/
import Derived.Test.YtfijbhacobjjgacStateH
namespace Go.Proofs.Ytfijbhacobjjgac
open Go.RowKit Go.Proofs.YtfijbhacobjjgacW.PrintWords Go.Proofs.YtfijbhacobjjgacW.PrintLast Go.Proofs.YtfijbhacobjjgacW.PrintMore Go.Proofs.Ytfijbhacobjjgac.Fr
set_option linter.unusedVariables false
set_option linter.unusedSimpArgs false
attribute [local go_sem] max2_int min2_int max_two min_two

open Go.Maps
set_option maxHeartbeats 4000000 in
set_option maxRecDepth 100000 in
theorem falls_walk (A : Option Addr) (len ca : Nat) (w0 : World) (hd : IsDeeds w0 A len ca) :
    Calls Try.prog 3 #[.slice A len ca] w0 fun e w' => e = .returned (.bool true) ∧ Below w0.heap.size w0 w' := by
  obtain ⟨hcap, hds⟩ := hd
  have HB := Aside0.mk (Below.refl w0.heap.size w0)
  by_cases hbig : 60 < len
  · go_enter Try.func3, Try.ntmps3
    go_wp2_with ((go_at_call 6; refine (awake_any _).mono ?_; rintro e w1 ⟨rfl, hb⟩; have zz_HB := Aside0.mk (below_step HB.out hb); clear HB; have HB := zz_HB; clear zz_HB; clear hb))
    go_ret
    exact ⟨rfl, HB.out⟩
  have hl60 : len ≤ 60 := by omega
  have HD := Aside0.mk hds
  clear hds hbig
  go_enter Try.func3, Try.ntmps3
  go_wp2_with (first
    | (go_at_call 6; refine (awake_any _).mono ?_; rintro e w1 ⟨rfl, hb⟩; have zz_HB := Aside0.mk (below_step HB.out hb); clear HB; have HB := zz_HB; clear zz_HB; clear hb)
    | (go_at_call 7; refine (new_in _ HB.out HB.out.size).mono ?_; rintro e w2 ⟨g, md, rfl, ht⟩; have HT := Aside0.mk ht; clear ht HB))
  go_loopg [4, 17] len (fun d x4 x17 wr => ∃ (k : Nat) (rv dv : Value) (n : Nat) (rs ds : List ByteArray) (D : DW), Aside0 (k + d = len) ∧ x17 = .int .i64 k ∧ Aside0 (rs.length ≤ 20 + k ∧ ds.length ≤ 20 + k ∧ n ≤ k) ∧ Aside0 (SI w0.heap.size w0 wr g rv dv md n rs ds D) ∧ Aside0 (Rw w0.heap.size g rv dv md wr x4 ds))
  case atStart => exact ⟨0, _, _, _, _, _, _, ⟨by omega⟩, rfl, ⟨by simp⟩, HT, ⟨Rw.nil _⟩⟩
  case round =>
    clear HT
    obtain ⟨k, rv, dv, n, rs, ds, D, HK, rfl, HM, HT, VK⟩ := hrel
    by_cases hlt : k < len
    · obtain ⟨⟨kd, nx, nn, s, LA, lc, L⟩, hx⟩ := HD.out k hlt
      obtain ⟨⟨ad, rfl, hc0, hc1, hc2, hc3, hc4⟩, ⟨hk0, hk1, hwn⟩, hlc, hrL⟩ := hx.below HT.out.below
      clear hx
      simp only at hc0 hc1 hc2 hc3 hc4 hk0 hk1 hwn hlc hrL
      rw [cell_off _ (by decide)] at hc1 hc2 hc3 hc4
      have hk2 : k < 60 := by omega
      by_cases h300 : 300 < s.size
      · have h3 : (300 : Int) < (s.size : Int) := by omega
        go_wp2
        go_ret
        exact ⟨rfl, below_alloc HT.out.below _⟩
      have h3 : (s.size : Int) ≤ 300 := by omega
      by_cases h20 : 20 < L.length
      · have h2 : (20 : Int) < (L.length : Int) := by omega
        go_wp2
        go_ret
        exact ⟨rfl, below_alloc HT.out.below _⟩
      have h2 : (L.length : Int) ≤ 20 := by omega
      have HQ := Aside0.mk (And.intro hk0 (And.intro hk1 (And.intro hwn (And.intro hlc hrL))))
      clear hk0 hk1 hwn hlc hrL h300 h20
      go_wp2_with fail
      have hbl := below_alloc (Below.refl wr.heap.size wr) (.cells #[.int .u8 kd, .bool nx, .int .i64 nn, .string s, .slice LA L.length lc] 28 (0, 0))
      have X : Aside0 (Bx w0.heap.size g rv dv md (wr.alloc (.cells #[.int .u8 kd, .bool nx, .int .i64 nn, .string s, .slice LA L.length lc] 28 (0, 0))) wr.heap.size (.cells #[.int .u8 kd, .bool nx, .int .i64 nn, .string s, .slice LA L.length lc] 28 (0, 0))) := ⟨blk_new wr _, HT.out.free (Nat.le_refl _)⟩
      have HL : Aside0 (RdS (wr.alloc (.cells #[.int .u8 kd, .bool nx, .int .i64 nn, .string s, .slice LA L.length lc] 28 (0, 0))) LA L) := ⟨HQ.out.2.2.2.2.below hbl⟩
      have zz_HT := Aside0.mk (HT.out.from hbl); have zz_VK := Aside0.mk (VK.out.from hbl); clear HT; clear VK; have HT := zz_HT; have VK := zz_VK; clear zz_HT; clear zz_VK
      have HQ2 := Aside0.mk (And.intro HQ.out.2.2.1 HQ.out.2.2.2.1)
      have hk0 := HQ.out.1
      have hk1 := HQ.out.2.1
      clear hbl HQ hc0 hc1 hc2 hc3 hc4
      generalize wr.alloc (.cells #[.int .u8 kd, .bool nx, .int .i64 nn, .string s, .slice LA L.length lc] 28 (0, 0)) = W1 at HT VK X HL ⊢
      generalize wr.heap.size = gx at X ⊢
      refine (all_in HT.out (by have := HM.out.1; omega)).mono ?_
      rintro e w2 ⟨va, rfl, hrw, ht, hb⟩
      have WAS := Aside0.mk hrw
      have zz_HT := Aside0.mk (ht); have zz_VK := Aside0.mk (VK.out.from hb); have zz_X := Aside0.mk (X.out.from hb); have zz_HL := Aside0.mk (HL.out.below hb); clear HT; clear VK; clear X; clear HL; have HT := zz_HT; have VK := zz_VK; have X := zz_X; have HL := zz_HL; clear zz_HT; clear zz_VK; clear zz_X; clear zz_HL
      obtain ⟨VA, ca1, rfl, hca1, _⟩ := own_rds hrw.row
      clear hrw ht hb
      have cx0 : w2.cell? ⟨gx, 0, none⟩ = some (.int .u8 kd) := (blk_cell X.out.box 0).trans rfl
      have cx2 : w2.cell? ⟨gx, 2, none⟩ = some (.int .i64 nn) := (blk_cell X.out.box 2).trans rfl
      have cx3 : w2.cell? ⟨gx, 3, none⟩ = some (.string s) := (blk_cell X.out.box 3).trans rfl
      have cx4 : w2.cell? ⟨gx, 4, none⟩ = some (.slice LA L.length lc) := (blk_cell X.out.box 4).trans rfl
      have hm : kd % 6 = 0 ∨ kd % 6 = 1 ∨ kd % 6 = 2 ∨ kd % 6 = 3 ∨ 4 ≤ kd % 6 := by omega
      have ht6 : kd.tmod 6 = kd % 6 := Int.tmod_eq_emod_of_nonneg hk0
      rcases hm with hm | hm | hm | hm | hm
      · have hq0 : (kd % 6 == 0) = true := by rw [hm]; rfl
        have pq0 : (kd.tmod 6 == 0) = true := by rw [ht6, hm]; rfl
        have hq1 : (kd % 6 == 1) = false := by rw [hm]; rfl
        have pq1 : (kd.tmod 6 == 1) = false := by rw [ht6, hm]; rfl
        clear hm hk0 hk1 ht6
        go_wp2_with fail
        refine (apply_mv _ s HT.out rfl (by have := HM.out.1; omega)).mono ?_
        rintro e w3 ⟨v1, rfl, ht, hm⟩
        have zz_HT := Aside0.mk (ht); have zz_VK := Aside0.mk (VK.out.move hm); have zz_X := Aside0.mk (X.out.move hm); have zz_WAS := Aside0.mk (WAS.out.move hm); clear HT; clear VK; clear X; clear WAS; have HT := zz_HT; have VK := zz_VK; have X := zz_X; have WAS := zz_WAS; clear zz_HT; clear zz_VK; clear zz_X; clear zz_WAS
        clear ht hm cx0 cx2 cx3 cx4
        have hle : rs.length ≤ (rs ++ [s]).length := (by simp)
        have hln : (rs ++ [s]).length ≤ 20 + (k + 1) := by have := HM.out.1; simp; omega
        go_wp2_with fail
        refine (all_in HT.out (by omega)).mono ?_
        rintro e w8 ⟨vb, rfl, hrw, ht, hb⟩
        have zz_HT := Aside0.mk (ht); have zz_VK := Aside0.mk (VK.out.from hb); have zz_X := Aside0.mk (X.out.from hb); have zz_WAS := Aside0.mk (WAS.out.from hb); clear HT; clear VK; clear X; clear WAS; have HT := zz_HT; have VK := zz_VK; have X := zz_X; have WAS := zz_WAS; clear zz_HT; clear zz_VK; clear zz_X; clear zz_WAS
        obtain ⟨VN, cn, rfl, hcn, hrN⟩ := own_rds hrw.row
        have NOW := Aside0.mk hrN
        have cx0 : w8.cell? ⟨gx, 0, none⟩ = some (.int .u8 kd) := (blk_cell X.out.box 0).trans rfl
        have hcr : rs.length ≤ cn := by omega
        clear hrw hrN ht hb
        go_wp2_with ((go_at_call 13; refine (same_self VN VA rs cn ca1 _ (RdS.pre NOW.out (by rw [List.take_left' rfl])) (rds_of WAS.out.row) (by have := HM.out.1; omega) (by omega) hca1).mono ?_; rintro e w9 ⟨rfl, hd⟩; have zz_HT := Aside0.mk (HT.out.from hd.below); have zz_VK := Aside0.mk (VK.out.from hd.below); clear HT; clear VK; have HT := zz_HT; have VK := zz_VK; clear zz_HT; clear zz_VK; clear hd))
        skip
        all_goals
          go_roundg (gk - 1)
          case measure => have := HK.out; omega
          case rel => exact ⟨k + 1, _, _, _, _, _, _, ⟨by have := HK.out; omega⟩, by go_num, ⟨by have := HM.out; exact ⟨hln, by omega, by omega⟩⟩, HT, VK⟩
      · have hq0 : (kd % 6 == 0) = false := by rw [hm]; rfl
        have pq0 : (kd.tmod 6 == 0) = false := by rw [ht6, hm]; rfl
        have hq1 : (kd % 6 == 1) = true := by rw [hm]; rfl
        have pq1 : (kd.tmod 6 == 1) = true := by rw [ht6, hm]; rfl
        have hp1 : kd.tmod 6 = 1 := by rw [ht6, hm]
        clear hm hk0 hk1 ht6
        by_cases hll : L.length ≤ rs.length
        · go_wp2_with fail
          refine (load_few LA L.length lc w2 HT.out.st hll).mono ?_
          rintro e w3 ⟨rfl, rfl⟩
          clear cx0 cx2 cx3 cx4
          have hle : rs.length ≤ (rs).length := (Nat.le_refl _)
          have hln : (rs).length ≤ 20 + (k + 1) := by have := HM.out.1; simp; omega
          go_wp2_with fail
          refine (all_in HT.out (by omega)).mono ?_
          rintro e w8 ⟨vb, rfl, hrw, ht, hb⟩
          have zz_HT := Aside0.mk (ht); have zz_VK := Aside0.mk (VK.out.from hb); have zz_X := Aside0.mk (X.out.from hb); have zz_WAS := Aside0.mk (WAS.out.from hb); clear HT; clear VK; clear X; clear WAS; have HT := zz_HT; have VK := zz_VK; have X := zz_X; have WAS := zz_WAS; clear zz_HT; clear zz_VK; clear zz_X; clear zz_WAS
          obtain ⟨VN, cn, rfl, hcn, hrN⟩ := own_rds hrw.row
          have NOW := Aside0.mk hrN
          have cx0 : w8.cell? ⟨gx, 0, none⟩ = some (.int .u8 kd) := (blk_cell X.out.box 0).trans rfl
          have hcr : rs.length ≤ cn := by omega
          clear hrw hrN ht hb
          go_wp2_with ((go_at_call 13; refine (same_self VN VA rs cn ca1 _ (RdS.pre NOW.out (by rw [List.take_length])) (rds_of WAS.out.row) (by have := HM.out.1; omega) (by omega) hca1).mono ?_; rintro e w9 ⟨rfl, hd⟩; have zz_HT := Aside0.mk (HT.out.from hd.below); have zz_VK := Aside0.mk (VK.out.from hd.below); clear HT; clear VK; have HT := zz_HT; have VK := zz_VK; clear zz_HT; clear zz_VK; clear hd))
          skip
          all_goals
            go_roundg (gk - 1)
            case measure => have := HK.out; omega
            case rel => exact ⟨k + 1, _, _, _, _, _, _, ⟨by have := HK.out; omega⟩, by go_num, ⟨by have := HM.out; exact ⟨hln, by omega, by omega⟩⟩, HT, VK⟩
        · go_wp2_with fail
          refine (load_mv LA lc L HT.out HL.out (by omega) (by omega)).mono ?_
          rintro e w3 ⟨v1, rfl, ht, hm⟩
          have zz_HT := Aside0.mk (ht); have zz_VK := Aside0.mk (VK.out.move hm); have zz_X := Aside0.mk (X.out.move hm); have zz_WAS := Aside0.mk (WAS.out.move hm); clear HT; clear VK; clear X; clear WAS; have HT := zz_HT; have VK := zz_VK; have X := zz_X; have WAS := zz_WAS; clear zz_HT; clear zz_VK; clear zz_X; clear zz_WAS
          clear ht hm cx0 cx2 cx3 cx4
          have hle : rs.length ≤ (L).length := (by omega)
          have hln : (L).length ≤ 20 + (k + 1) := by have := HM.out.1; simp; omega
          go_wp2_with fail
          refine (all_in HT.out (by omega)).mono ?_
          rintro e w8 ⟨vb, rfl, hrw, ht, hb⟩
          have zz_HT := Aside0.mk (ht); have zz_VK := Aside0.mk (VK.out.from hb); have zz_X := Aside0.mk (X.out.from hb); have zz_WAS := Aside0.mk (WAS.out.from hb); clear HT; clear VK; clear X; clear WAS; have HT := zz_HT; have VK := zz_VK; have X := zz_X; have WAS := zz_WAS; clear zz_HT; clear zz_VK; clear zz_X; clear zz_WAS
          obtain ⟨VN, cn, rfl, hcn, hrN⟩ := own_rds hrw.row
          have NOW := Aside0.mk hrN
          have cx0 : w8.cell? ⟨gx, 0, none⟩ = some (.int .u8 kd) := (blk_cell X.out.box 0).trans rfl
          have hcr : rs.length ≤ cn := by omega
          clear hrw hrN ht hb
          go_wp2_with fail
          skip
          all_goals
            go_roundg (gk - 1)
            case measure => have := HK.out; omega
            case rel => exact ⟨k + 1, _, _, _, _, _, _, ⟨by have := HK.out; omega⟩, by go_num, ⟨by have := HM.out; exact ⟨hln, by omega, by omega⟩⟩, HT, VK⟩
      · have hq0 : (kd % 6 == 0) = false := by rw [hm]; rfl
        have pq0 : (kd.tmod 6 == 0) = false := by rw [ht6, hm]; rfl
        have hq1 : (kd % 6 == 1) = false := by rw [hm]; rfl
        have pq1 : (kd.tmod 6 == 1) = false := by rw [ht6, hm]; rfl
        have hq2 : (kd % 6 == 2) = true := by rw [hm]; rfl
        have pq2 : (kd.tmod 6 == 2) = true := by rw [ht6, hm]; rfl
        clear hm hk0 hk1 ht6
        go_wp2_with fail
        refine (sync_mv HT.out (by have := HM.out.1; omega)).mono ?_
        rintro e w3 ⟨v1, rfl, ht, hm⟩
        clear VK
        have zz_HT := Aside0.mk (ht); have zz_X := Aside0.mk (X.out.move hm); have zz_WAS := Aside0.mk (WAS.out.move hm); clear HT; clear X; clear WAS; have HT := zz_HT; have X := zz_X; have WAS := zz_WAS; clear zz_HT; clear zz_X; clear zz_WAS
        have VK := WAS
        clear ht hm cx0 cx2 cx3 cx4
        have hle : rs.length ≤ (rs).length := (Nat.le_refl _)
        have hln : (rs).length ≤ 20 + (k + 1) := by have := HM.out.1; simp; omega
        go_wp2_with fail
        refine (all_in HT.out (by omega)).mono ?_
        rintro e w8 ⟨vb, rfl, hrw, ht, hb⟩
        have zz_HT := Aside0.mk (ht); have zz_VK := Aside0.mk (VK.out.from hb); have zz_X := Aside0.mk (X.out.from hb); have zz_WAS := Aside0.mk (WAS.out.from hb); clear HT; clear VK; clear X; clear WAS; have HT := zz_HT; have VK := zz_VK; have X := zz_X; have WAS := zz_WAS; clear zz_HT; clear zz_VK; clear zz_X; clear zz_WAS
        obtain ⟨VN, cn, rfl, hcn, hrN⟩ := own_rds hrw.row
        have NOW := Aside0.mk hrN
        have cx0 : w8.cell? ⟨gx, 0, none⟩ = some (.int .u8 kd) := (blk_cell X.out.box 0).trans rfl
        have hcr : rs.length ≤ cn := by omega
        clear hrw hrN ht hb
        go_wp2_with ((go_at_call 13; refine (same_self VN VA rs cn ca1 _ (RdS.pre NOW.out (by rw [List.take_length])) (rds_of WAS.out.row) (by have := HM.out.1; omega) (by omega) hca1).mono ?_; rintro e w9 ⟨rfl, hd⟩; have zz_HT := Aside0.mk (HT.out.from hd.below); have zz_VK := Aside0.mk (VK.out.from hd.below); clear HT; clear VK; have HT := zz_HT; have VK := zz_VK; clear zz_HT; clear zz_VK; clear hd))
        skip
        all_goals
          go_roundg (gk - 1)
          case measure => have := HK.out; omega
          case rel => exact ⟨k + 1, _, _, _, _, _, _, ⟨by have := HK.out; omega⟩, by go_num, ⟨by have := HM.out; exact ⟨hln, by omega, by omega⟩⟩, HT, VK⟩
      · have hq0 : (kd % 6 == 0) = false := by rw [hm]; rfl
        have pq0 : (kd.tmod 6 == 0) = false := by rw [ht6, hm]; rfl
        have hq1 : (kd % 6 == 1) = false := by rw [hm]; rfl
        have pq1 : (kd.tmod 6 == 1) = false := by rw [ht6, hm]; rfl
        have hq2 : (kd % 6 == 2) = false := by rw [hm]; rfl
        have pq2 : (kd.tmod 6 == 2) = false := by rw [ht6, hm]; rfl
        have hq3 : (kd % 6 == 3) = true := by rw [hm]; rfl
        have pq3 : (kd.tmod 6 == 3) = true := by rw [ht6, hm]; rfl
        clear hm hk0 hk1 ht6
        obtain ⟨VD, cd, rfl, hcd, _⟩ := own_rds VK.out.row
        go_wp2_with fail
        refine (crash_mv HT.out (by have := HM.out.2.1; omega)).mono ?_
        rintro e w3 ⟨v1, rfl, ht, hm⟩
        have zz_HT := Aside0.mk (ht); have zz_VK := Aside0.mk (VK.out.move hm); clear HT; clear VK; have HT := zz_HT; have VK := zz_VK; clear zz_HT; clear zz_VK
        clear ht hm cx0 cx2 cx3 cx4 X WAS HL
        go_wp2_with fail
        refine (all_in HT.out (by have := HM.out.2.1; omega)).mono ?_
        rintro e w4 ⟨vb, rfl, hrw, ht, hb⟩
        have zz_HT := Aside0.mk (ht); have zz_VK := Aside0.mk (VK.out.from hb); clear HT; clear VK; have HT := zz_HT; have VK := zz_VK; clear zz_HT; clear zz_VK
        obtain ⟨VN, cn, rfl, hcn, hrN⟩ := own_rds hrw.row
        have HN := Aside0.mk hrN
        clear hrw hrN ht hb
        go_wp2_with (first
          | (go_at_call 13; refine (same_self VN VD ds cn cd _ HN.out (rds_of VK.out.row) (by have := HM.out.2.1; omega) hcn hcd).mono ?_; rintro e w5 ⟨rfl, hd⟩; have zz_HT := Aside0.mk (HT.out.from hd.below); have zz_VK := Aside0.mk (VK.out.from hd.below); clear HT; clear VK; have HT := zz_HT; have VK := zz_VK; clear zz_HT; clear zz_VK; clear hd)
          | (go_at_call 14; refine (last_in HT.out).mono ?_; rintro e w6 ⟨⟨m, rfl, hm⟩, ht, hb⟩; obtain rfl := last_empty hm; have zz_HT := Aside0.mk (ht); have zz_VK := Aside0.mk (VK.out.from hb); clear HT; clear VK; have HT := zz_HT; have VK := zz_VK; clear zz_HT; clear zz_VK; clear hm ht hb))
        go_roundg (gk - 1)
        case measure => have := HK.out; omega
        case rel => exact ⟨k + 1, _, _, _, _, _, _, ⟨by have := HK.out; omega⟩, by go_num, ⟨by have := HM.out; omega⟩, HT, VK⟩
      · have hq0 : (kd % 6 == 0) = false := beq_eq_false_iff_ne.2 (by omega)
        have pq0 : (kd.tmod 6 == 0) = false := beq_eq_false_iff_ne.2 (by rw [ht6]; omega)
        have hq1 : (kd % 6 == 1) = false := beq_eq_false_iff_ne.2 (by omega)
        have pq1 : (kd.tmod 6 == 1) = false := beq_eq_false_iff_ne.2 (by rw [ht6]; omega)
        have hq2 : (kd % 6 == 2) = false := beq_eq_false_iff_ne.2 (by omega)
        have pq2 : (kd.tmod 6 == 2) = false := beq_eq_false_iff_ne.2 (by rw [ht6]; omega)
        have hq3 : (kd % 6 == 3) = false := beq_eq_false_iff_ne.2 (by omega)
        have pq3 : (kd.tmod 6 == 3) = false := beq_eq_false_iff_ne.2 (by rw [ht6]; omega)
        clear hm hk0 hk1 ht6
        go_wp2_with fail
        refine (keep_mv nn s HT.out HQ2.out.1 (by have := HM.out.2.2; omega)).mono ?_
        rintro e w3 ⟨r, D1, rfl, _, ht, hm⟩
        have zz_HT := Aside0.mk (ht); have zz_VK := Aside0.mk (VK.out.move hm); have zz_X := Aside0.mk (X.out.move hm); have zz_WAS := Aside0.mk (WAS.out.move hm); clear HT; clear VK; clear X; clear WAS; have HT := zz_HT; have VK := zz_VK; have X := zz_X; have WAS := zz_WAS; clear zz_HT; clear zz_VK; clear zz_X; clear zz_WAS
        clear ht hm cx0 cx2 cx3 cx4
        have hle : rs.length ≤ (rs).length := (Nat.le_refl _)
        have hln : (rs).length ≤ 20 + (k + 1) := by have := HM.out.1; simp; omega
        go_wp2_with fail
        refine (all_in HT.out (by omega)).mono ?_
        rintro e w8 ⟨vb, rfl, hrw, ht, hb⟩
        have zz_HT := Aside0.mk (ht); have zz_VK := Aside0.mk (VK.out.from hb); have zz_X := Aside0.mk (X.out.from hb); have zz_WAS := Aside0.mk (WAS.out.from hb); clear HT; clear VK; clear X; clear WAS; have HT := zz_HT; have VK := zz_VK; have X := zz_X; have WAS := zz_WAS; clear zz_HT; clear zz_VK; clear zz_X; clear zz_WAS
        obtain ⟨VN, cn, rfl, hcn, hrN⟩ := own_rds hrw.row
        have NOW := Aside0.mk hrN
        have cx0 : w8.cell? ⟨gx, 0, none⟩ = some (.int .u8 kd) := (blk_cell X.out.box 0).trans rfl
        have hcr : rs.length ≤ cn := by omega
        clear hrw hrN ht hb
        go_wp2_with ((go_at_call 13; refine (same_self VN VA rs cn ca1 _ (RdS.pre NOW.out (by rw [List.take_length])) (rds_of WAS.out.row) (by have := HM.out.1; omega) (by omega) hca1).mono ?_; rintro e w9 ⟨rfl, hd⟩; have zz_HT := Aside0.mk (HT.out.from hd.below); have zz_VK := Aside0.mk (VK.out.from hd.below); clear HT; clear VK; have HT := zz_HT; have VK := zz_VK; clear zz_HT; clear zz_VK; clear hd))
        skip
        all_goals
          go_roundg (gk - 1)
          case measure => have := HK.out; omega
          case rel => exact ⟨k + 1, _, _, _, _, _, _, ⟨by have := HK.out; omega⟩, by go_num, ⟨by have := HM.out; exact ⟨hln, by omega, by omega⟩⟩, HT, VK⟩
    · go_wp2
      go_ret
      exact ⟨rfl, HT.out.below⟩
end Go.Proofs.Ytfijbhacobjjgac
