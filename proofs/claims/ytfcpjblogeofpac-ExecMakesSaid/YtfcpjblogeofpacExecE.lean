/- The contracts of exec's Size and of the document's Run. -/
import Derived.Test.YtfcpjblogeofpacExecD
namespace Go.Proofs.Ytfcpjblogeofpac
open Go.RowKit Go.Proofs.YtfcpjblogeofpacW.PrintWords Go.Proofs.YtfcpjblogeofpacW.PrintLast Go.Proofs.YtfcpjblogeofpacW.PrintMore Go.Proofs.Ytfcpjblogeofpac.Fr
set_option linter.unusedVariables false
set_option linter.unusedSimpArgs false
attribute [local go_sem] max2_int min2_int max_two min_two

open Go.Proofs.Ytfcpjblogeofpac.Pl
def sizeF : List Stp → Int → Int
  | [], n => n
  | s :: r, n => sizeF r (if 1099511627776 < n + (if 1099511627776 < (if s.2.1 < 0 then 0 else s.2.1) then 1099511627776 else (if s.2.1 < 0 then 0 else s.2.1)) then 1099511627776 else n + (if 1099511627776 < (if s.2.1 < 0 then 0 else s.2.1) then 1099511627776 else (if s.2.1 < 0 then 0 else s.2.1)))
theorem sizeF_sum : ∀ (l : List Stp) (n : Int), (∀ s ∈ l, 0 ≤ s.2.1) → 0 ≤ n → n + mats l ≤ 1099511627776 → sizeF l n = n + mats l
  | [], n, _, _, _ => by simp [sizeF, mats]
  | s :: r, n, h, h0, h1 => by
    have hs := h s (List.mem_cons_self ..)
    have hr : 0 ≤ mats r := by
      have : ∀ l : List Stp, (∀ s ∈ l, 0 ≤ s.2.1) → 0 ≤ mats l := by
        intro l
        induction l with
        | nil => intro _; simp [mats]
        | cons a l ih => intro h; simp only [mats]; have := ih (fun s hs => h s (List.mem_cons_of_mem _ hs)); have := h a (List.mem_cons_self ..); omega
      exact this r (fun x hx => h x (List.mem_cons_of_mem _ hx))
    simp only [mats] at h1 ⊢
    simp only [sizeF]
    rw [if_neg (show ¬ s.2.1 < 0 by omega), if_neg (show ¬ 1099511627776 < s.2.1 by omega), if_neg (show ¬ 1099511627776 < n + s.2.1 by omega), sizeF_sum r _ (fun x hx => h x (List.mem_cons_of_mem _ hx)) (by omega) (by omega)]
    omega
set_option maxRecDepth 100000 in
theorem size_any (L : ByteArray) (A0 : Option Addr) (cap : Nat) (xs : List Stp) (w0 : World) (hL : L.size ≤ 1000) (hxl : xs.length ≤ 1000) (hS : Steps w0 A0 xs) :
    Calls Try.prog 9 #[.string L, .slice A0 xs.length cap] w0 fun e w' => e = .returned (.int .i64 (sizeF xs L.size)) ∧ Below w0.heap.size w0 w' := by
  have HS := Aside0.mk hS
  clear hS
  go_enter Try.func9, Try.ntmps9
  go_wp2
  go_loopg [5, 12] xs.length (fun gk x y wr => ∃ (k : Nat) (n : Int), Aside0 (k + gk = xs.length) ∧ x = .int .i64 n ∧ y = .int .i64 k ∧ Aside0 (sizeF (xs.drop k) n = sizeF xs L.size ∧ 0 ≤ n ∧ n ≤ 1099511627776) ∧ Aside0 (Below w0.heap.size w0 wr))
  case atStart => exact ⟨0, L.size, ⟨by omega⟩, rfl, rfl, ⟨rfl, by omega, by omega⟩, ⟨Below.refl _ _⟩⟩
  case round =>
    obtain ⟨k, n, HK, rfl, rfl, HI, HB⟩ := hrel
    obtain ⟨h0, hn0, hn1⟩ := HI.out
    by_cases hlt : k < xs.length
    · obtain ⟨ad, rfl, hc0, hc1, hc2⟩ := (HS.out.below HB.out) k hlt
      obtain ⟨s1, s2, s3, hs⟩ : ∃ s1 s2 s3, xs.getD k (0, 0, 0) = (s1, s2, s3) := ⟨_, _, _, rfl⟩
      rw [drop_get xs k hlt, hs] at h0
      rw [hs] at hc0 hc1 hc2
      simp only at hc0 hc1 hc2
      rw [← add_add, cell_off _ (by decide)] at hc1 hc2
      simp only [sizeF] at h0
      obtain ⟨p, hp⟩ : ∃ p, (if s2 < 0 then 0 else s2) = p := ⟨_, rfl⟩
      obtain ⟨q, hq⟩ : ∃ q, (if 1099511627776 < p then 1099511627776 else p) = q := ⟨_, rfl⟩
      obtain ⟨r, hr⟩ : ∃ r, (if 1099511627776 < n + q then 1099511627776 else n + q) = r := ⟨_, rfl⟩
      have hp0 : 0 ≤ p := by rw [← hp]; split <;> omega
      have hq0 : 0 ≤ q := by rw [← hq]; split <;> omega
      have hq1 : q ≤ 1099511627776 := by rw [← hq]; split <;> omega
      have hr0 : 0 ≤ r := by rw [← hr]; split <;> omega
      have hr1 : r ≤ 1099511627776 := by rw [← hr]; split <;> omega
      rw [hp, hq, hr] at h0
      have H0 := Aside0.mk h0
      clear h0 hs
      go_wp2
      go_roundg (gk - 1)
      case measure => have := HK.out; omega
      case rel => exact ⟨k + 1, r, ⟨by have := HK.out; omega⟩, rfl, by go_num, ⟨H0.out, hr0, hr1⟩, ⟨below_step HB.out (below_alloc (Below.refl _ _) _)⟩⟩
    · have HE : Aside0 (n = sizeF xs L.size) := ⟨by rw [← h0, List.drop_of_length_le (by omega)]; rfl⟩
      clear h0
      go_wp2
      go_ret
      exact ⟨by rw [HE.out]; rfl, HB.out⟩
theorem ext_len (L : ByteArray) (n : Nat) (h : n ≤ L.size) : (L.extract 0 n).size = n := by rw [ByteArray.size_extract]; omega
theorem ext_one (B : ByteArray) (a : Nat) (h : a + 1 ≤ B.size) : (B.extract a (a + 1)).data.toList = [B.data.toList.getD a 0] := by
  have hl : a < B.data.toList.length := by rw [data_length]; omega
  rw [ByteArray.data_extract, Array.toList_extract]
  simp only [List.extract_eq_take_drop]
  rw [show a + 1 - a = 1 by omega, List.drop_eq_getElem_cons hl, List.take_succ_cons, List.take_zero, List.getD_eq_getElem?_getD, List.getElem?_eq_getElem hl]
  rfl
theorem app_list (a b : ByteArray) : (a ++ b).data.toList = a.data.toList ++ b.data.toList := by simp
theorem ext_list (L : ByteArray) (n : Nat) : (L.extract 0 n).data.toList = L.data.toList.take n := by
  rw [ByteArray.data_extract, Array.toList_extract]
  simp [List.extract_eq_take_drop]
set_option maxRecDepth 100000 in
set_option maxHeartbeats 8000000 in
theorem refRun_any (D L0 : ByteArray) (A0 : Option Addr) (cap : Nat) (xs : List Stp) (limit : Int) (w0 : World) (hD : D.size ≤ 1000) (hL0 : L0.size ≤ 1000) (hxl : xs.length ≤ 1000) (hlim : limit ≤ 1000) (hS : Steps w0 A0 xs) :
    Calls Try.prog 8 #[.string D, .string L0, .slice A0 xs.length cap, .int .i64 limit] w0 (RunPost D L0 xs limit w0) := by
  obtain ⟨lim, hlm⟩ : ∃ lim, limOf limit = lim := ⟨_, rfl⟩
  have hcase : (limit < 0 ∧ lim = 0) ∨ (0 ≤ limit ∧ limit = lim) := by rw [← hlm]; unfold limOf; split <;> omega
  have hlim0 : 0 ≤ lim := by omega
  have hlim1 : lim ≤ 1000 := by omega
  obtain ⟨RES, hres⟩ : ∃ RES, run D.size lim xs D.data.toList L0.data.toList = RES := ⟨_, rfl⟩
  have HRES := Aside0.mk hres
  have HPOST : Aside0 (∀ e w', (e = .returned (.tuple #[.string (toS RES.1), .int .i64 RES.2]) ∧ Below w0.heap.size w0 w') → RunPost D L0 xs limit w0 e w') := ⟨fun e w' h => by unfold RunPost; rw [hlm, hres]; exact h⟩
  have HS := Aside0.mk hS
  obtain ⟨ah, hah⟩ : ∃ ah, D.size = ah := ⟨_, rfl⟩
  have HAH : Aside0 (D.data.toList.length = ah ∧ D.size = ah) := ⟨(data_length D).trans hah, hah⟩
  rw [hah] at HRES
  clear hlm hres hS
  refine Calls.mono (R := fun e w' => e = .returned (.tuple #[.string (toS RES.1), .int .i64 RES.2]) ∧ Below w0.heap.size w0 w') ?_ HPOST.out
  clear HPOST
  clear hah
  rcases hcase with ⟨q1, rfl⟩ | ⟨q1, rfl⟩
  · go_enter Try.func8, Try.ntmps8
    go_wp2
    go_loopg [1, 10, 11] xs.length (fun gk x o y wr => ∃ (k : Nat) (L O : ByteArray), Aside0 (k + gk = xs.length) ∧ x = .string L ∧ o = .string O ∧ y = .int .i64 k ∧ Aside0 (run ah (0 : Int) (xs.drop k) (D.data.toList ++ O.data.toList) L.data.toList = RES ∧ L.size ≤ 1000 ∧ (O.size : Int) ≤ (0 : Int)) ∧ Aside0 (Below w0.heap.size w0 wr))
    case atStart => exact ⟨0, L0, ⟨#[]⟩, ⟨by omega⟩, rfl, rfl, rfl, ⟨by simpa using HRES.out, hL0, by have := hlim0; (simp [ByteArray.size]; try omega)⟩, ⟨Below.refl _ _⟩⟩
    case round =>
      obtain ⟨k, L, O, HK, rfl, rfl, rfl, HI, HB⟩ := hrel
      obtain ⟨hrun, hLs, hOs⟩ := HI.out
      have hLL : L.data.toList.length = L.size := data_length L
      have hOO : O.data.toList.length = O.size := data_length O
      have hbb : (D.data.toList ++ O.data.toList).length = ah + O.size := by rw [List.length_append, HAH.out.1, hOO]
      by_cases hlt : k < xs.length
      · obtain ⟨ad, rfl, hc0, hc1, hc2⟩ := (HS.out.below HB.out) k hlt
        obtain ⟨s1, s2, s3, hs⟩ : ∃ s1 s2 s3, xs.getD k (0, 0, 0) = (s1, s2, s3) := ⟨_, _, _, rfl⟩
        rw [drop_get xs k hlt, hs] at hrun
        rw [hs] at hc0 hc1 hc2
        simp only at hc0 hc1 hc2
        rw [← add_add, cell_off _ (by decide)] at hc1 hc2
        simp only [run] at hrun
        rw [hLL, hbb] at hrun
        have HRUN := Aside0.mk hrun
        have HLL := Aside0.mk (And.intro hLL (And.intro hOO hbb))
        clear hrun hs hLL hOO hbb
        have HB2 : Aside0 (Below w0.heap.size w0 (wr.alloc (.cells #[.int .i64 s1, .int .i64 s2, .int .i64 s3] 37))) := ⟨below_step HB.out (below_alloc (Below.refl _ _) _)⟩
        by_cases c1 : s1 < 0 ∨ (L.size : Int) < s1
        · have HE : Aside0 (RES = ([], 3)) := ⟨by have h := HRUN.out; rw [if_pos c1] at h; exact h.symm⟩
          have hd : (decide (s1 < 0) = true) ∨ (decide (s1 < 0) = false ∧ decide ((L.size : Int) < s1) = true) := by
            by_cases h : s1 < 0
            · exact .inl (decide_eq_true h)
            · exact .inr ⟨decide_eq_false h, decide_eq_true (c1.resolve_left h)⟩
          clear c1
          rcases hd with hd | ⟨hd, hd2⟩
          all_goals
            go_wp2
            go_ret2
            exact ⟨by first | (rw [HE.out]; done) | (rw [HE.out]; rfl), HB2.out⟩
        · have h10 : 0 ≤ s1 := by omega
          have h11 : s1 ≤ (L.size : Int) := by omega
          (have h := HRUN.out); (rw [if_neg c1] at h); (have HRUN2 := Aside0.mk h); clear h
          obtain ⟨ln, rfl⟩ : ∃ ln : Nat, s1 = (ln : Int) := ⟨s1.toNat, by omega⟩
          have hd1 : decide ((ln : Int) < 0) = false := decide_eq_false (by omega)
          have hd2 : decide (L.size < ln) = false := decide_eq_false (by omega)
          have hln : ln ≤ L.size := by omega
          clear c1 HRUN h11
          have hx1 := ext_len L ln hln
          have hx2 : (O ++ L.extract 0 ln).size = O.size + ln := by rw [ByteArray.size_append, hx1]
          have hmi : min ln L.size = ln := by omega
          by_cases c2 : (ln : Int) ≤ (0 : Int) - (((ah + O.size : Nat) : Int) - ah)
          · (have h := HRUN2.out); (rw [if_neg (not_not_intro c2), Int.toNat_natCast] at h); (have HRUN3 := Aside0.mk h); clear h
            clear HRUN2
            obtain ⟨O1, hO1⟩ : ∃ O1, O ++ L.extract 0 ln = O1 := ⟨_, rfl⟩
            have hb0 : D.data.toList ++ O.data.toList ++ L.data.toList.take ln = D.data.toList ++ O1.data.toList := by rw [← hO1, app_list, ext_list, List.append_assoc]
            have hO1s : O1.size = O.size + ln := by rw [← hO1]; exact hx2
            rw [hb0] at HRUN3
            have hl2 : (D.data.toList ++ O1.data.toList).length = ah + O1.size := by rw [List.length_append, HAH.out.1, data_length]
            rw [hl2] at HRUN3
            rw [hO1] at hx2
            have hO1l : (O1.size : Int) ≤ (0 : Int) := by omega
            have hDa : D.size = ah := HAH.out.2
            have HFS := Aside0.mk (And.intro hb0 (And.intro hO1s (And.intro hl2 hDa)))
            have hO1a : O1.size ≤ O.size + ln := by omega
            have hO1b : O.size + ln ≤ O1.size := by omega
            have hDa1 : D.size ≤ ah := by omega
            have hDa2 : ah ≤ D.size := by omega
            have HO1 := Aside0.mk hO1
            have hov : (O.size : Int) + (ln : Int) ≤ (0 : Int) := by omega
            clear hb0 hO1s hl2 hDa hx2 hO1
            by_cases c3 : s2 < 3 ∨ s3 < 1 ∨ ((ah + O1.size : Nat) : Int) < s3
            · have HE : Aside0 (RES = ([], 3)) := ⟨by have h := HRUN3.out; rw [if_pos c3] at h; exact h.symm⟩
              have hd : (decide (s2 < 3) = true) ∨ (decide (s2 < 3) = false ∧ decide (s3 < 1) = true) ∨ (decide (s2 < 3) = false ∧ decide (s3 < 1) = false ∧ (D.size : Int) + (O1.size : Int) < s3) := by
                by_cases h : s2 < 3
                · exact .inl (decide_eq_true h)
                · by_cases h' : s3 < 1
                  · exact .inr (.inl ⟨decide_eq_false h, decide_eq_true h'⟩)
                  · exact .inr (.inr ⟨decide_eq_false h, decide_eq_false h', by omega⟩)
              clear c3
              rcases hd with e1 | ⟨e1, e2⟩ | ⟨e1, e2, e3⟩
              all_goals
                go_wp2
                go_ret2
                exact ⟨by first | (rw [HE.out]; done) | (rw [HE.out]; rfl), HB2.out⟩
            · (have h := HRUN3.out); (rw [if_neg c3] at h); (have HRUN4 := Aside0.mk h); clear h
              clear HRUN3
              obtain ⟨mn, rfl⟩ : ∃ mn : Nat, s2 = (mn : Int) := ⟨s2.toNat, by omega⟩
              obtain ⟨on, rfl⟩ : ∃ on : Nat, s3 = (on : Int) := ⟨s3.toNat, by omega⟩
              rw [Int.toNat_natCast, Int.toNat_natCast] at HRUN4
              have hm3 : 3 ≤ mn := by omega
              have ho1 : 1 ≤ on := by omega
              have ho2 : on ≤ D.size + O1.size := by omega
              have e1 : decide ((mn : Int) < 3) = false := decide_eq_false (by omega)
              have e2 : decide ((on : Int) < 1) = false := decide_eq_false (by omega)
              have e3 : decide (D.size + O1.size < on) = false := decide_eq_false (by omega)
              clear c3
              go_wp2_with fail
              rw [HO1.out]
              have HG : Aside0 ((wr.alloc (.cells #[.int .i64 ln, .int .i64 mn, .int .i64 on] 37)).heap[wr.heap.size]? = some (.cells #[.int .i64 ln, .int .i64 mn, .int .i64 on] 37 (0, 0))) := ⟨blk_new wr _⟩
              generalize wr.alloc (.cells #[.int .i64 ln, .int .i64 mn, .int .i64 on] 37) = W2 at HB2 HG ⊢
              generalize wr.heap.size = gx at HG ⊢
              have d1 : W2.cell? ⟨gx, 1, none⟩ = some (.int .i64 mn) := (blk_cell HG.out 1).trans rfl
              have d2 : W2.cell? ⟨gx, 2, none⟩ = some (.int .i64 on) := (blk_cell HG.out 2).trans rfl
              clear hc0 hc1 hc2 e1 e2 e3 hx1 hmi hd1 hd2
              obtain ⟨gk1, rfl⟩ : ∃ g1 : Nat, g1 = gk := ⟨_, rfl⟩
              obtain ⟨wo, rfl⟩ : ∃ wo : World, wo = wr := ⟨_, rfl⟩
              go_loopg [10, 13] mn (fun gk2 o z wr2 => ∃ (j : Nat) (Oj : ByteArray), Aside0 (j + gk2 = mn) ∧ o = .string Oj ∧ z = .int .i64 j ∧ Aside0 (D.data.toList ++ Oj.data.toList = cop on j (D.data.toList ++ O1.data.toList) ∧ (Oj.size : Int) ≤ (0 : Int)) ∧ W2 = wr2)
              case atStart => exact ⟨0, O1, ⟨by omega⟩, rfl, rfl, ⟨rfl, hO1l⟩, rfl⟩
              case round =>
                obtain ⟨j, Oj, HJ, rfl, rfl, HIJ, rfl⟩ := hrel
                have hOjs : Oj.size = O1.size + j := by
                  have h := congrArg List.length HIJ.out.1
                  rw [cop_length, List.length_append, List.length_append, data_length, data_length, data_length] at h
                  omega
                have hOjl := HIJ.out.2
                have hOja : Oj.size ≤ O1.size + j := by omega
                have hOjb : O1.size + j ≤ Oj.size := by omega
                have HOJ := Aside0.mk hOjs
                clear hOjs
                by_cases hj : j < mn
                · obtain ⟨a, ha⟩ : ∃ a, D.size + Oj.size - on = a := ⟨_, rfl⟩
                  have haa : a + 1 ≤ D.size + Oj.size := by omega
                  have hw : (D.size : Int) + (Oj.size : Int) - (on : Int) = (a : Int) := by omega
                  have hx3 : ((D ++ Oj).extract a (a + 1)).size = 1 := by rw [ByteArray.size_extract, ByteArray.size_append]; omega
                  have hxl : ((D ++ Oj).extract a (a + 1)).data.toList = [(D.data.toList ++ Oj.data.toList).getD a 0] := by
                    rw [ext_one _ _ (by rw [ByteArray.size_append]; exact haa), app_list]
                  have HNX : Aside0 (D.data.toList ++ (Oj ++ (D ++ Oj).extract a (a + 1)).data.toList = cop on (j + 1) (D.data.toList ++ O1.data.toList)) := ⟨by
                    rw [cop_succ, ← HIJ.out.1, app_list, hxl, ← List.append_assoc]
                    congr 3
                    rw [List.length_append, data_length, data_length, ha]⟩
                  have hxs : (Oj ++ (D ++ Oj).extract a (a + 1)).size = Oj.size + 1 := by rw [ByteArray.size_append, hx3]
                  clear hxl
                  by_cases hov2 : (Oj.size : Int) + 1 ≤ (0 : Int)
                  · (exfalso; omega)
                  · have HE : Aside0 (RES = ([], 5)) := ⟨by
                      have h := HRUN4.out
                      have hbig : ¬ (mn : Int) ≤ (0 : Int) - (((ah + O1.size : Nat) : Int) - ah) := by have := HOJ.out; omega
                      first | (rw [if_pos hbig] at h; exact h.symm) | (rw [if_pos (by omega)] at h; exact h.symm)⟩
                    go_wp2
                    go_ret2
                    exact ⟨by first | (rw [HE.out]; done) | (rw [HE.out]; rfl), HB2.out⟩
                · obtain rfl : j = mn := by have := HJ.out; omega
                  have HX : Aside0 (run ah (0 : Int) (xs.drop (k + 1)) (D.data.toList ++ Oj.data.toList) (L.extract ln L.size).data.toList = RES) := ⟨by
                    rw [HIJ.out.1, ext_rest]
                    have h := HRUN4.out
                    have hsm : (j : Int) ≤ (0 : Int) - (((ah + O1.size : Nat) : Int) - ah) := by have := HOJ.out; omega
                    first | (rw [if_neg (not_not_intro hsm)] at h; exact h) | (rw [if_neg (by omega)] at h; exact h)⟩
                  (exfalso; omega)
          · have HE : Aside0 (RES = ([], 5)) := ⟨by have h := HRUN2.out; rw [if_pos c2] at h; exact h.symm⟩
            have hov : (0 : Int) < (O.size : Int) + (ln : Int) := by omega
            clear c2
            go_wp2
            go_ret2
            exact ⟨by first | (rw [HE.out]; done) | (rw [HE.out]; rfl), HB2.out⟩
      · have hk2 : xs.length ≤ k := by omega
        have HRUN : Aside0 ((if (L.data.toList.length : Int) ≤ (0 : Int) - (((D.data.toList ++ O.data.toList).length : Int) - ah) then ((D.data.toList ++ O.data.toList ++ L.data.toList).drop ah, (0 : Int)) else ([], 5)) = RES) := ⟨by
          rw [List.drop_of_length_le hk2] at hrun
          exact hrun⟩
        rw [hLL, hbb] at HRUN
        have hsz : (O ++ L).size = O.size + L.size := by rw [ByteArray.size_append]
        have HFIN : Aside0 (toS ((D.data.toList ++ O.data.toList ++ L.data.toList).drop ah) = O ++ L) := ⟨by
          rw [List.append_assoc, ← HAH.out.1, List.drop_left, ← app_list]
          rfl⟩
        clear hk2 hrun hLL hOO hbb
        by_cases c1 : (L.size : Int) ≤ (0 : Int) - (((ah + O.size : Nat) : Int) - ah)
        · have HE : Aside0 (RES = ((D.data.toList ++ O.data.toList ++ L.data.toList).drop ah, 0)) := ⟨by have h := HRUN.out; rw [if_pos c1] at h; exact h.symm⟩
          have hok : (O.size : Int) + (L.size : Int) ≤ (0 : Int) := by omega
          go_wp2
          go_ret2
          exact ⟨by rw [HE.out, HFIN.out]; rfl, HB.out⟩
        · have HE : Aside0 (RES = ([], 5)) := ⟨by have h := HRUN.out; rw [if_neg c1] at h; exact h.symm⟩
          have hov : (0 : Int) < (O.size : Int) + (L.size : Int) := by omega
          go_wp2
          go_ret2
          exact ⟨by first | (rw [HE.out]; done) | (rw [HE.out]; rfl), HB.out⟩
  · go_enter Try.func8, Try.ntmps8
    go_wp2
    go_loopg [1, 10, 11] xs.length (fun gk x o y wr => ∃ (k : Nat) (L O : ByteArray), Aside0 (k + gk = xs.length) ∧ x = .string L ∧ o = .string O ∧ y = .int .i64 k ∧ Aside0 (run ah limit (xs.drop k) (D.data.toList ++ O.data.toList) L.data.toList = RES ∧ L.size ≤ 1000 ∧ (O.size : Int) ≤ limit) ∧ Aside0 (Below w0.heap.size w0 wr))
    case atStart => exact ⟨0, L0, ⟨#[]⟩, ⟨by omega⟩, rfl, rfl, rfl, ⟨by simpa using HRES.out, hL0, by have := hlim0; (simp [ByteArray.size]; try omega)⟩, ⟨Below.refl _ _⟩⟩
    case round =>
      obtain ⟨k, L, O, HK, rfl, rfl, rfl, HI, HB⟩ := hrel
      obtain ⟨hrun, hLs, hOs⟩ := HI.out
      have hLL : L.data.toList.length = L.size := data_length L
      have hOO : O.data.toList.length = O.size := data_length O
      have hbb : (D.data.toList ++ O.data.toList).length = ah + O.size := by rw [List.length_append, HAH.out.1, hOO]
      by_cases hlt : k < xs.length
      · obtain ⟨ad, rfl, hc0, hc1, hc2⟩ := (HS.out.below HB.out) k hlt
        obtain ⟨s1, s2, s3, hs⟩ : ∃ s1 s2 s3, xs.getD k (0, 0, 0) = (s1, s2, s3) := ⟨_, _, _, rfl⟩
        rw [drop_get xs k hlt, hs] at hrun
        rw [hs] at hc0 hc1 hc2
        simp only at hc0 hc1 hc2
        rw [← add_add, cell_off _ (by decide)] at hc1 hc2
        simp only [run] at hrun
        rw [hLL, hbb] at hrun
        have HRUN := Aside0.mk hrun
        have HLL := Aside0.mk (And.intro hLL (And.intro hOO hbb))
        clear hrun hs hLL hOO hbb
        have HB2 : Aside0 (Below w0.heap.size w0 (wr.alloc (.cells #[.int .i64 s1, .int .i64 s2, .int .i64 s3] 37))) := ⟨below_step HB.out (below_alloc (Below.refl _ _) _)⟩
        by_cases c1 : s1 < 0 ∨ (L.size : Int) < s1
        · have HE : Aside0 (RES = ([], 3)) := ⟨by have h := HRUN.out; rw [if_pos c1] at h; exact h.symm⟩
          have hd : (decide (s1 < 0) = true) ∨ (decide (s1 < 0) = false ∧ decide ((L.size : Int) < s1) = true) := by
            by_cases h : s1 < 0
            · exact .inl (decide_eq_true h)
            · exact .inr ⟨decide_eq_false h, decide_eq_true (c1.resolve_left h)⟩
          clear c1
          rcases hd with hd | ⟨hd, hd2⟩
          all_goals
            go_wp2
            go_ret2
            exact ⟨by first | (rw [HE.out]; done) | (rw [HE.out]; rfl), HB2.out⟩
        · have h10 : 0 ≤ s1 := by omega
          have h11 : s1 ≤ (L.size : Int) := by omega
          (have h := HRUN.out); (rw [if_neg c1] at h); (have HRUN2 := Aside0.mk h); clear h
          obtain ⟨ln, rfl⟩ : ∃ ln : Nat, s1 = (ln : Int) := ⟨s1.toNat, by omega⟩
          have hd1 : decide ((ln : Int) < 0) = false := decide_eq_false (by omega)
          have hd2 : decide (L.size < ln) = false := decide_eq_false (by omega)
          have hln : ln ≤ L.size := by omega
          clear c1 HRUN h11
          have hx1 := ext_len L ln hln
          have hx2 : (O ++ L.extract 0 ln).size = O.size + ln := by rw [ByteArray.size_append, hx1]
          have hmi : min ln L.size = ln := by omega
          by_cases c2 : (ln : Int) ≤ limit - (((ah + O.size : Nat) : Int) - ah)
          · (have h := HRUN2.out); (rw [if_neg (not_not_intro c2), Int.toNat_natCast] at h); (have HRUN3 := Aside0.mk h); clear h
            clear HRUN2
            obtain ⟨O1, hO1⟩ : ∃ O1, O ++ L.extract 0 ln = O1 := ⟨_, rfl⟩
            have hb0 : D.data.toList ++ O.data.toList ++ L.data.toList.take ln = D.data.toList ++ O1.data.toList := by rw [← hO1, app_list, ext_list, List.append_assoc]
            have hO1s : O1.size = O.size + ln := by rw [← hO1]; exact hx2
            rw [hb0] at HRUN3
            have hl2 : (D.data.toList ++ O1.data.toList).length = ah + O1.size := by rw [List.length_append, HAH.out.1, data_length]
            rw [hl2] at HRUN3
            rw [hO1] at hx2
            have hO1l : (O1.size : Int) ≤ limit := by omega
            have hDa : D.size = ah := HAH.out.2
            have HFS := Aside0.mk (And.intro hb0 (And.intro hO1s (And.intro hl2 hDa)))
            have hO1a : O1.size ≤ O.size + ln := by omega
            have hO1b : O.size + ln ≤ O1.size := by omega
            have hDa1 : D.size ≤ ah := by omega
            have hDa2 : ah ≤ D.size := by omega
            have HO1 := Aside0.mk hO1
            have hov : (O.size : Int) + (ln : Int) ≤ limit := by omega
            clear hb0 hO1s hl2 hDa hx2 hO1
            by_cases c3 : s2 < 3 ∨ s3 < 1 ∨ ((ah + O1.size : Nat) : Int) < s3
            · have HE : Aside0 (RES = ([], 3)) := ⟨by have h := HRUN3.out; rw [if_pos c3] at h; exact h.symm⟩
              have hd : (decide (s2 < 3) = true) ∨ (decide (s2 < 3) = false ∧ decide (s3 < 1) = true) ∨ (decide (s2 < 3) = false ∧ decide (s3 < 1) = false ∧ (D.size : Int) + (O1.size : Int) < s3) := by
                by_cases h : s2 < 3
                · exact .inl (decide_eq_true h)
                · by_cases h' : s3 < 1
                  · exact .inr (.inl ⟨decide_eq_false h, decide_eq_true h'⟩)
                  · exact .inr (.inr ⟨decide_eq_false h, decide_eq_false h', by omega⟩)
              clear c3
              rcases hd with e1 | ⟨e1, e2⟩ | ⟨e1, e2, e3⟩
              all_goals
                go_wp2
                go_ret2
                exact ⟨by first | (rw [HE.out]; done) | (rw [HE.out]; rfl), HB2.out⟩
            · (have h := HRUN3.out); (rw [if_neg c3] at h); (have HRUN4 := Aside0.mk h); clear h
              clear HRUN3
              obtain ⟨mn, rfl⟩ : ∃ mn : Nat, s2 = (mn : Int) := ⟨s2.toNat, by omega⟩
              obtain ⟨on, rfl⟩ : ∃ on : Nat, s3 = (on : Int) := ⟨s3.toNat, by omega⟩
              rw [Int.toNat_natCast, Int.toNat_natCast] at HRUN4
              have hm3 : 3 ≤ mn := by omega
              have ho1 : 1 ≤ on := by omega
              have ho2 : on ≤ D.size + O1.size := by omega
              have e1 : decide ((mn : Int) < 3) = false := decide_eq_false (by omega)
              have e2 : decide ((on : Int) < 1) = false := decide_eq_false (by omega)
              have e3 : decide (D.size + O1.size < on) = false := decide_eq_false (by omega)
              clear c3
              go_wp2_with fail
              rw [HO1.out]
              have HG : Aside0 ((wr.alloc (.cells #[.int .i64 ln, .int .i64 mn, .int .i64 on] 37)).heap[wr.heap.size]? = some (.cells #[.int .i64 ln, .int .i64 mn, .int .i64 on] 37 (0, 0))) := ⟨blk_new wr _⟩
              generalize wr.alloc (.cells #[.int .i64 ln, .int .i64 mn, .int .i64 on] 37) = W2 at HB2 HG ⊢
              generalize wr.heap.size = gx at HG ⊢
              have d1 : W2.cell? ⟨gx, 1, none⟩ = some (.int .i64 mn) := (blk_cell HG.out 1).trans rfl
              have d2 : W2.cell? ⟨gx, 2, none⟩ = some (.int .i64 on) := (blk_cell HG.out 2).trans rfl
              clear hc0 hc1 hc2 e1 e2 e3 hx1 hmi hd1 hd2
              obtain ⟨gk1, rfl⟩ : ∃ g1 : Nat, g1 = gk := ⟨_, rfl⟩
              obtain ⟨wo, rfl⟩ : ∃ wo : World, wo = wr := ⟨_, rfl⟩
              go_loopg [10, 13] mn (fun gk2 o z wr2 => ∃ (j : Nat) (Oj : ByteArray), Aside0 (j + gk2 = mn) ∧ o = .string Oj ∧ z = .int .i64 j ∧ Aside0 (D.data.toList ++ Oj.data.toList = cop on j (D.data.toList ++ O1.data.toList) ∧ (Oj.size : Int) ≤ limit) ∧ W2 = wr2)
              case atStart => exact ⟨0, O1, ⟨by omega⟩, rfl, rfl, ⟨rfl, hO1l⟩, rfl⟩
              case round =>
                obtain ⟨j, Oj, HJ, rfl, rfl, HIJ, rfl⟩ := hrel
                have hOjs : Oj.size = O1.size + j := by
                  have h := congrArg List.length HIJ.out.1
                  rw [cop_length, List.length_append, List.length_append, data_length, data_length, data_length] at h
                  omega
                have hOjl := HIJ.out.2
                have hOja : Oj.size ≤ O1.size + j := by omega
                have hOjb : O1.size + j ≤ Oj.size := by omega
                have HOJ := Aside0.mk hOjs
                clear hOjs
                by_cases hj : j < mn
                · obtain ⟨a, ha⟩ : ∃ a, D.size + Oj.size - on = a := ⟨_, rfl⟩
                  have haa : a + 1 ≤ D.size + Oj.size := by omega
                  have hw : (D.size : Int) + (Oj.size : Int) - (on : Int) = (a : Int) := by omega
                  have hx3 : ((D ++ Oj).extract a (a + 1)).size = 1 := by rw [ByteArray.size_extract, ByteArray.size_append]; omega
                  have hxl : ((D ++ Oj).extract a (a + 1)).data.toList = [(D.data.toList ++ Oj.data.toList).getD a 0] := by
                    rw [ext_one _ _ (by rw [ByteArray.size_append]; exact haa), app_list]
                  have HNX : Aside0 (D.data.toList ++ (Oj ++ (D ++ Oj).extract a (a + 1)).data.toList = cop on (j + 1) (D.data.toList ++ O1.data.toList)) := ⟨by
                    rw [cop_succ, ← HIJ.out.1, app_list, hxl, ← List.append_assoc]
                    congr 3
                    rw [List.length_append, data_length, data_length, ha]⟩
                  have hxs : (Oj ++ (D ++ Oj).extract a (a + 1)).size = Oj.size + 1 := by rw [ByteArray.size_append, hx3]
                  clear hxl
                  by_cases hov2 : (Oj.size : Int) + 1 ≤ limit
                  · go_wp2
                    go_roundg (gk - 1)
                    case measure => have := HJ.out; omega
                    case rel => exact ⟨j + 1, _, ⟨by have := HJ.out; omega⟩, rfl, by go_num, ⟨HNX.out, by rw [hxs]; omega⟩, rfl⟩
                  · have HE : Aside0 (RES = ([], 5)) := ⟨by
                      have h := HRUN4.out
                      have hbig : ¬ (mn : Int) ≤ limit - (((ah + O1.size : Nat) : Int) - ah) := by have := HOJ.out; omega
                      first | (rw [if_pos hbig] at h; exact h.symm) | (rw [if_pos (by omega)] at h; exact h.symm)⟩
                    go_wp2
                    go_ret2
                    exact ⟨by first | (rw [HE.out]; done) | (rw [HE.out]; rfl), HB2.out⟩
                · obtain rfl : j = mn := by have := HJ.out; omega
                  have HX : Aside0 (run ah limit (xs.drop (k + 1)) (D.data.toList ++ Oj.data.toList) (L.extract ln L.size).data.toList = RES) := ⟨by
                    rw [HIJ.out.1, ext_rest]
                    have h := HRUN4.out
                    have hsm : (j : Int) ≤ limit - (((ah + O1.size : Nat) : Int) - ah) := by have := HOJ.out; omega
                    first | (rw [if_neg (not_not_intro hsm)] at h; exact h) | (rw [if_neg (by omega)] at h; exact h)⟩
                  go_wp2
                  go_roundg (gk1 - 1)
                  case measure => have := HK.out; omega
                  case rel => exact ⟨k + 1, _, Oj, ⟨by have := HK.out; omega⟩, rfl, rfl, by go_num, ⟨HX.out, by rw [ByteArray.size_extract]; omega, hOjl⟩, HB2⟩
          · have HE : Aside0 (RES = ([], 5)) := ⟨by have h := HRUN2.out; rw [if_pos c2] at h; exact h.symm⟩
            have hov : limit < (O.size : Int) + (ln : Int) := by omega
            clear c2
            go_wp2
            go_ret2
            exact ⟨by first | (rw [HE.out]; done) | (rw [HE.out]; rfl), HB2.out⟩
      · have hk2 : xs.length ≤ k := by omega
        have HRUN : Aside0 ((if (L.data.toList.length : Int) ≤ limit - (((D.data.toList ++ O.data.toList).length : Int) - ah) then ((D.data.toList ++ O.data.toList ++ L.data.toList).drop ah, (0 : Int)) else ([], 5)) = RES) := ⟨by
          rw [List.drop_of_length_le hk2] at hrun
          exact hrun⟩
        rw [hLL, hbb] at HRUN
        have hsz : (O ++ L).size = O.size + L.size := by rw [ByteArray.size_append]
        have HFIN : Aside0 (toS ((D.data.toList ++ O.data.toList ++ L.data.toList).drop ah) = O ++ L) := ⟨by
          rw [List.append_assoc, ← HAH.out.1, List.drop_left, ← app_list]
          rfl⟩
        clear hk2 hrun hLL hOO hbb
        by_cases c1 : (L.size : Int) ≤ limit - (((ah + O.size : Nat) : Int) - ah)
        · have HE : Aside0 (RES = ((D.data.toList ++ O.data.toList ++ L.data.toList).drop ah, 0)) := ⟨by have h := HRUN.out; rw [if_pos c1] at h; exact h.symm⟩
          have hok : (O.size : Int) + (L.size : Int) ≤ limit := by omega
          go_wp2
          go_ret2
          exact ⟨by rw [HE.out, HFIN.out]; rfl, HB.out⟩
        · have HE : Aside0 (RES = ([], 5)) := ⟨by have h := HRUN.out; rw [if_neg c1] at h; exact h.symm⟩
          have hov : limit < (O.size : Int) + (L.size : Int) := by omega
          go_wp2
          go_ret2
          exact ⟨by first | (rw [HE.out]; done) | (rw [HE.out]; rfl), HB.out⟩
end Go.Proofs.Ytfcpjblogeofpac
