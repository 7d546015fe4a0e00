/- The contracts of the document's Right, Literals; the walk of ExecRight. -/
import Derived.Test.YtfcpjblogeofpacExecF
namespace Go.Proofs.Ytfcpjblogeofpac
open Go.RowKit Go.Proofs.YtfcpjblogeofpacW.PrintWords Go.Proofs.YtfcpjblogeofpacW.PrintLast Go.Proofs.YtfcpjblogeofpacW.PrintMore Go.Proofs.Ytfcpjblogeofpac.Fr
set_option linter.unusedVariables false
set_option linter.unusedSimpArgs false
attribute [local go_sem] max2_int min2_int max_two min_two

open Go.Proofs.Ytfcpjblogeofpac.Pl
def bgx (T : ByteArray) (i : Nat) : UInt8 := T.data.toList.getD i 0
theorem bgx_get (T : ByteArray) (i : Nat) (h : i < T.size) : T[i] = bgx T i := by
  have h2 : i < T.data.toList.length := by simpa using h
  unfold bgx
  rw [List.getD_eq_getElem?_getD, List.getElem?_eq_getElem h2]
  rfl
set_option maxRecDepth 100000 in
set_option maxHeartbeats 4000000 in
theorem right_any (D S : ByteArray) (A0 : Option Addr) (cap : Nat) (xs : List Stp) (w0 : World) (hD : D.size ≤ 1000) (hSs : S.size ≤ 1000) (hxl : xs.length ≤ 1000) (hS : Steps w0 A0 xs) (hR : right (D.data.toList ++ S.data.toList) xs D.size) :
    Calls Try.prog 10 #[.string D, .string S, .slice A0 xs.length cap] w0 fun e w' => e = .returned (.bool true) ∧ Below w0.heap.size w0 w' := by
  have HS := Aside0.mk hS
  have hXs : (D ++ S).size = D.size + S.size := by rw [ByteArray.size_append]
  have HR := Aside0.mk hR
  clear hS hR
  go_enter Try.func10, Try.ntmps10
  go_wp2
  obtain ⟨X, hX⟩ : ∃ X, D ++ S = X := ⟨_, rfl⟩
  obtain ⟨n, hn⟩ : ∃ n, X.size = n := ⟨_, rfl⟩
  have hXl : X.data.toList.length = n := by rw [data_length]; exact hn
  rw [← app_list, hX] at HR
  rw [hX] at hXs
  rw [hX]
  rw [hn] at hXs
  have hn1 : n ≤ 2000 := by omega
  have HN := Aside0.mk (And.intro hn (And.intro hX (And.intro hXl hXs)))
  clear hn hX hXl hXs
  go_loopg [8, 9] xs.length (fun gk x y wr => ∃ (k a : Nat), Aside0 (k + gk = xs.length) ∧ x = .int .i64 a ∧ y = .int .i64 k ∧ Aside0 (right X.data.toList (xs.drop k) a ∧ a ≤ n) ∧ Aside0 (Below w0.heap.size w0 wr))
  case atStart => exact ⟨0, D.size, ⟨by omega⟩, rfl, rfl, ⟨HR.out, by have := HN.out; omega⟩, ⟨Below.refl _ _⟩⟩
  case round =>
    obtain ⟨k, a, HK, rfl, rfl, HI, HB⟩ := hrel
    obtain ⟨hr, han⟩ := HI.out
    by_cases hlt : k < xs.length
    · obtain ⟨ad, rfl, hc0, hc1, hc2⟩ := (HS.out.below HB.out) k hlt
      obtain ⟨s1, s2, s3, hs⟩ : ∃ s1 s2 s3, xs.getD k (0, 0, 0) = (s1, s2, s3) := ⟨_, _, _, rfl⟩
      rw [drop_get xs k hlt, hs] at hr
      rw [hs] at hc0 hc1 hc2
      simp only at hc0 hc1 hc2
      rw [← add_add, cell_off _ (by decide)] at hc1 hc2
      obtain ⟨hst, hsame, hrest⟩ := hr
      unfold okStep at hst
      simp only at hst hsame hrest
      rw [HN.out.2.2.1] at hst
      obtain ⟨ln, rfl⟩ : ∃ ln : Nat, s1 = (ln : Int) := ⟨s1.toNat, by omega⟩
      obtain ⟨mn, rfl⟩ : ∃ mn : Nat, s2 = (mn : Int) := ⟨s2.toNat, by omega⟩
      obtain ⟨on, rfl⟩ : ∃ on : Nat, s3 = (on : Int) := ⟨s3.toNat, by omega⟩
      simp only [Int.toNat_natCast] at hsame hrest
      obtain ⟨i1, i2, i3, i4, i5, i6, i7, i8⟩ := hst
      have HRS := Aside0.mk hrest
      have HSM := Aside0.mk hsame
      have hsz : X.size = n := HN.out.1
      have e1 : decide ((ln : Int) < 0) = false := decide_eq_false (by omega)
      have e2 : decide (n < ln) = false := decide_eq_false (by omega)
      have e3 : decide ((mn : Int) < 3) = false := decide_eq_false (by omega)
      have e4 : decide (n < mn) = false := decide_eq_false (by omega)
      have e5 : decide ((on : Int) < 1) = false := decide_eq_false (by omega)
      have e6 : decide (n < on) = false := decide_eq_false (by omega)
      have HB2 : Aside0 (Below w0.heap.size w0 (wr.alloc (.cells #[.int .i64 ln, .int .i64 mn, .int .i64 on] 37))) := ⟨below_step HB.out (below_alloc (Below.refl _ _) _)⟩
      have HG : Aside0 ((wr.alloc (.cells #[.int .i64 ln, .int .i64 mn, .int .i64 on] 37)).heap[wr.heap.size]? = some (.cells #[.int .i64 ln, .int .i64 mn, .int .i64 on] 37 (0, 0))) := ⟨blk_new wr _⟩
      clear hrest hsame hs
      go_wp2_with fail
      clear e1 e2 e3 e4 e5 e6 hsz hc0 hc1 hc2
      generalize wr.alloc (.cells #[.int .i64 ln, .int .i64 mn, .int .i64 on] 37) = W2 at HB2 HG ⊢
      generalize wr.heap.size = gx at HG ⊢
      obtain ⟨gk1, rfl⟩ : ∃ g1 : Nat, g1 = gk := ⟨_, rfl⟩
      obtain ⟨wo, rfl⟩ : ∃ wo : World, wo = wr := ⟨_, rfl⟩
      go_loopg [8, 11] mn (fun gk x y wr => ∃ j : Nat, Aside0 (j + gk = mn) ∧ x = .int .i64 ((a + ln + j : Nat) : Int) ∧ y = .int .i64 j ∧ Aside0 (Drawn0 W2 wr))
      case atStart => exact ⟨0, ⟨by omega⟩, by go_num, rfl, ⟨Drawn0.refl _⟩⟩
      case round =>
        obtain ⟨j, HJ, rfl, rfl, HD⟩ := hrel
        have hg := blk_below HG.out HD.out.below
        have d1 : wr.cell? ⟨gx, 1, none⟩ = some (.int .i64 mn) := (blk_cell hg 1).trans rfl
        have d2 : wr.cell? ⟨gx, 2, none⟩ = some (.int .i64 on) := (blk_cell hg 2).trans rfl
        clear hg
        by_cases hj : j < mn
        · obtain ⟨p, hp⟩ : ∃ p, a + ln + j = p := ⟨_, rfl⟩
          obtain ⟨q, hq⟩ : ∃ q, p - on = q := ⟨_, rfl⟩
          have hsz : X.size = n := HN.out.1
          have hpn : p < X.size := by omega
          have hqn : q < X.size := by omega
          have hw : IntKind.i64.wrap ((p : Int) - (on : Int)) = (q : Int) := by rw [IntKind.wrap_i64]; omega
          have hbb : X[p] = X[q] := by
            rw [bgx_get X p hpn, bgx_get X q hqn]
            have := HSM.out j hj
            rw [hp, hq] at this
            exact this
          have hne : ((X[p].toNat : Int) != (X[q].toNat : Int)) = false := by rw [hbb]; simp
          have hpi : (p : Int) < (X.size : Int) := by omega
          have hqi : (q : Int) < (X.size : Int) := by omega
          rw [hp]
          have HP := Aside0.mk (And.intro hp hq)
          have hp2 : p ≤ 2000 := by omega
          clear hbb hp hq hsz
          go_wp2
          go_quiet (fail)
          clear hw
          go_wp2
          go_roundg (gk - 1)
          case measure => have := HJ.out; omega
          case rel => exact ⟨j + 1, ⟨by have := HJ.out; omega⟩, by have := HP.out.1; rw [show a + ln + (j + 1) = p + 1 by omega]; go_num, by go_num, ⟨HD.out.step _⟩⟩
        · obtain rfl : j = mn := by have := HJ.out; omega
          go_wp2
          go_roundg (gk1 - 1)
          case measure => have := HK.out; omega
          case rel => exact ⟨k + 1, a + ln + j, ⟨by have := HK.out; omega⟩, rfl, by go_num, ⟨HRS.out, by omega⟩, ⟨below_step HB2.out HD.out.below⟩⟩
    · go_wp2
      go_ret
      exact ⟨rfl, HB.out⟩
def fits (n : Nat) : List Stp → Nat → Prop
  | [], _ => True
  | s :: r, a => 0 ≤ s.1 ∧ 0 ≤ s.2.1 ∧ (a : Int) + s.1 + s.2.1 ≤ n ∧ fits n r (a + s.1.toNat + s.2.1.toNat)
theorem right_fits {all : Bs} {n ah : Nat} (hn : all.length = ah + n) : ∀ (l : List Stp) (a : Nat), right all l (ah + a) → fits n l a
  | [], _, _ => trivial
  | s :: r, a, h => by
    obtain ⟨h1, _, h3⟩ := h
    unfold okStep at h1
    rw [hn] at h1
    refine ⟨by omega, by omega, by omega, right_fits hn r _ ?_⟩
    rw [show ah + (a + s.1.toNat + s.2.1.toNat) = ah + a + s.1.toNat + s.2.1.toNat by omega]
    exact h3
theorem ext_mid (L : ByteArray) (a n : Nat) : (L.extract a (a + n)).data.toList = (L.data.toList.drop a).take n := by
  rw [ByteArray.data_extract, Array.toList_extract]
  simp only [List.extract_eq_take_drop]
  rw [show a + n - a = n by omega]
theorem toS_of (L : ByteArray) : toS L.data.toList = L := by simp [toS]
set_option maxRecDepth 100000 in
set_option maxHeartbeats 4000000 in
theorem lits_any (S : ByteArray) (A0 : Option Addr) (cap : Nat) (xs : List Stp) (w0 : World) (hSs : S.size ≤ 1000) (hxl : xs.length ≤ 1000) (hS : Steps w0 A0 xs) (hF : fits S.size xs 0) :
    Calls Try.prog 11 #[.string S, .slice A0 xs.length cap] w0 fun e w' => e = .returned (.string (toS (litsOf S.data.toList xs 0))) ∧ Drawn0 w0 w' := by
  have HS := Aside0.mk hS
  have HF := Aside0.mk hF
  clear hS hF
  go_enter Try.func11, Try.ntmps11
  go_wp2
  go_loopg [5, 6, 7] xs.length (fun gk o x y wr => ∃ (k a : Nat) (O : ByteArray), Aside0 (k + gk = xs.length) ∧ o = .string O ∧ x = .int .i64 a ∧ y = .int .i64 k ∧ Aside0 (O.data.toList ++ litsOf S.data.toList (xs.drop k) a = litsOf S.data.toList xs 0 ∧ fits S.size (xs.drop k) a ∧ a ≤ S.size ∧ O.size ≤ a) ∧ Aside0 (Drawn0 w0 wr))
  case atStart => exact ⟨0, 0, ⟨#[]⟩, ⟨by omega⟩, rfl, rfl, rfl, ⟨by simp, HF.out, by omega, Nat.le_refl _⟩, ⟨Drawn0.refl _⟩⟩
  case round =>
    obtain ⟨k, a, O, HK, rfl, rfl, rfl, HI, HD⟩ := hrel
    obtain ⟨hl, hf, han, hOa⟩ := HI.out
    by_cases hlt : k < xs.length
    · obtain ⟨ad, rfl, hc0, hc1, hc2⟩ := (HS.out.below HD.out.below) k hlt
      obtain ⟨s1, s2, s3, hs⟩ : ∃ s1 s2 s3, xs.getD k (0, 0, 0) = (s1, s2, s3) := ⟨_, _, _, rfl⟩
      rw [drop_get xs k hlt, hs] at hl hf
      rw [hs] at hc0 hc1 hc2
      simp only at hc0 hc1 hc2
      rw [← add_add, cell_off _ (by decide)] at hc1 hc2
      obtain ⟨i1, i2, i3, hf2⟩ := hf
      simp only at i1 i2 i3
      obtain ⟨ln, rfl⟩ : ∃ ln : Nat, s1 = (ln : Int) := ⟨s1.toNat, by omega⟩
      obtain ⟨mn, rfl⟩ : ∃ mn : Nat, s2 = (mn : Int) := ⟨s2.toNat, by omega⟩
      simp only [Int.toNat_natCast] at hf2
      simp only [litsOf, Int.toNat_natCast] at hl
      have hx1 : (S.extract a (a + ln)).size = ln := by rw [ByteArray.size_extract]; omega
      have hx2 : (O ++ S.extract a (a + ln)).size = O.size + ln := by rw [ByteArray.size_append, hx1]
      have HL : Aside0 ((O ++ S.extract a (a + ln)).data.toList ++ litsOf S.data.toList (xs.drop (k + 1)) (a + ln + mn) = litsOf S.data.toList xs 0) := ⟨by rw [app_list, ext_mid, List.append_assoc]; exact hl⟩
      have HF2 := Aside0.mk hf2
      have HX2 := Aside0.mk hx2
      have hmi : min (a + ln) S.size - a = ln := by omega
      have hmi2 : min (a + ln) S.size = a + ln := by omega
      have hw1 : IntKind.i64.wrap ((a : Int) + (ln : Int)) = (a : Int) + (ln : Int) := by rw [IntKind.wrap_i64]; omega
      have hw2 : IntKind.i64.wrap ((a : Int) + (ln : Int) + (mn : Int)) = ((a + ln + mn : Nat) : Int) := by rw [IntKind.wrap_i64]; omega
      clear hl hf2 hs hx2
      go_wp2
      go_quiet (fail)
      clear hw1 hw2
      go_wp2
      go_roundg (gk - 1)
      case measure => have := HK.out; omega
      case rel => exact ⟨k + 1, a + ln + mn, _, ⟨by have := HK.out; omega⟩, rfl, by go_num, by go_num, ⟨HL.out, HF2.out, by omega, by rw [HX2.out]; omega⟩, ⟨HD.out.step _⟩⟩
    · have HE : Aside0 (toS (litsOf S.data.toList xs 0) = O ++ S.extract a S.size) := ⟨by
        rw [← hl, List.drop_of_length_le (by omega)]
        simp only [litsOf]
        rw [← ext_rest, ← app_list, toS_of]⟩
      have hx1 : (S.extract a S.size).size = S.size - a := by rw [ByteArray.size_extract]; omega
      have hx2 : (O ++ S.extract a S.size).size = O.size + (S.size - a) := by rw [ByteArray.size_append, hx1]
      clear hl hf
      go_wp2
      go_ret
      exact ⟨by rw [HE.out]; rfl, HD.out⟩
set_option maxRecDepth 100000 in
set_option maxHeartbeats 4000000 in
theorem right_walk (D : ByteArray) (hD : D.size ≤ 140737488351232) (L : ByteArray) (hL : L.size ≤ 140737488351232) (A : Option Addr) (len cap : Nat) (xs : List Stp) (w0 : World) (hcap : len ≤ cap) (hC : int3.C w0 A len xs) (hwf : ∀ p ∈ xs, (Lit.int .i64 p.1).wf = true ∧ (Lit.int .i64 p.2.1).wf = true ∧ (Lit.int .i64 p.2.2).wf = true) :
    Calls Try.prog 4 #[.string D, .string L, .slice A len cap] w0 fun e w' => e = .returned (.bool true) ∧ Below w0.heap.size w0 w' := by
  obtain ⟨hS, hxl⟩ := steps_of hC
  have HS := Aside0.mk hS
  have hl64 : len ≤ 9223372036854775807 := hC.2.1
  clear hC hwf hS
  by_cases hg : 60 < D.size ∨ 60 < L.size ∨ 20 < len
  · have hd : (decide ((60 : Int) < (D.size : Int)) = true) ∨ (decide ((60 : Int) < (D.size : Int)) = false ∧ decide ((60 : Int) < (L.size : Int)) = true) ∨ (decide ((60 : Int) < (D.size : Int)) = false ∧ decide ((60 : Int) < (L.size : Int)) = false ∧ decide ((20 : Int) < (len : Int)) = true) := by
      simp only [decide_eq_true_eq, decide_eq_false_iff_not]
      omega
    clear hg
    go_enter Try.func4, Try.ntmps4
    go_wp2_with fail
    refine (awake_any _).mono ?_
    rintro e w1 ⟨rfl, hb1⟩
    have HB1 := Aside0.mk hb1
    clear hb1
    rcases hd with hd | ⟨hd, hd2⟩ | ⟨hd, hd2, hd3⟩
    all_goals
      go_wp2
      go_ret
      exact ⟨rfl, HB1.out⟩
  · have hd1 : decide ((60 : Int) < (D.size : Int)) = false := decide_eq_false (by omega)
    have hd2 : decide ((60 : Int) < (L.size : Int)) = false := decide_eq_false (by omega)
    have hd3 : decide ((20 : Int) < (len : Int)) = false := decide_eq_false (by omega)
    have hD1 : D.size ≤ 60 := by omega
    have hL1 : L.size ≤ 60 := by omega
    have hl1 : len ≤ 20 := by omega
    clear hg
    obtain ⟨r, hr⟩ : ∃ r, run D.size 600 xs D.data.toList L.data.toList = r := ⟨_, rfl⟩
    obtain ⟨S0, hS0⟩ : ∃ S0, toS r.1 = S0 := ⟨_, rfl⟩
    obtain ⟨c, hc⟩ : ∃ c, r.2 = c := ⟨_, rfl⟩
    have H7 : Aside0 (∀ w, Below w0.heap.size w0 w → Calls Try.prog 7 #[.string D, .string L, .slice A len cap, .int .i64 600] w fun e w' => e = .returned (.tuple #[.string S0, .int .i64 c]) ∧ Below w.heap.size w w') := ⟨fun w hw => by
      have := run_any D L A cap xs 600 w (by omega) (by omega) (by omega) (by omega) (HS.out.below hw)
      unfold RunPost at this
      rwa [show limOf 600 = 600 from rfl, hr, hS0, hc, hxl] at this⟩
    have HBAD : Aside0 (c ≠ 0 → S0 = ⟨#[]⟩) := ⟨fun h => by
      obtain ⟨r1, r2⟩ := r
      simp only at hc hS0
      rw [← hS0, (run_err hr).2 (by rw [hc]; exact h)]
      rfl⟩
    have HOK : Aside0 (c = 0 → S0.size ≤ 600 ∧ right (D.data.toList ++ S0.data.toList) xs D.size ∧ fits S0.size xs 0 ∧ toS (litsOf S0.data.toList xs 0) = L) := ⟨fun hc0 => by
      obtain ⟨r1, r2⟩ := r
      simp only at hc hS0
      rw [hc0] at hc
      subst hc
      obtain ⟨h1, h2, h3⟩ := run_ok hr (by rw [data_length]; omega)
      obtain ⟨g1, g2, g3⟩ := run_right hr (by rw [data_length]; omega)
      have ht : D.data.toList.take D.size = D.data.toList := List.take_of_length_le (by rw [data_length]; omega)
      rw [ht, data_length] at g2
      rw [data_length, Nat.sub_self] at g3
      have e1 : S0.data.toList = r1 := by rw [← hS0, toS_list]
      have e2 : S0.size = r1.length := by rw [← hS0, toS_size]
      rw [← e1] at g2 g3
      refine ⟨by omega, g2, right_fits (ah := D.size) (by rw [List.length_append, data_length, data_length]) xs 0 g2, ?_⟩
      rw [g3, toS_of]⟩
    clear hr hS0 hc
    go_enter Try.func4, Try.ntmps4
    go_wp2_with fail
    refine (awake_any _).mono ?_
    rintro e w1 ⟨rfl, hb1⟩
    have HB1 := Aside0.mk hb1
    clear hb1
    go_wp2_with fail
    refine (H7.out _ HB1.out).mono ?_
    rintro e w2 ⟨rfl, hb2⟩
    have HB2 := Aside0.mk (below_step HB1.out hb2)
    clear hb2 HB1
    by_cases hc0 : c = 0
    · obtain ⟨k1, k2, k3, k4⟩ := HOK.out hc0
      have H10 : Aside0 (∀ w, Below w0.heap.size w0 w → Calls Try.prog 10 #[.string D, .string S0, .slice A len cap] w fun e w' => e = .returned (.bool true) ∧ Below w.heap.size w w') := ⟨fun w hw => by
        have := right_any D S0 A cap xs w (by omega) (by omega) (by omega) (HS.out.below hw) k2
        rwa [hxl] at this⟩
      have H11 : Aside0 (∀ w, Below w0.heap.size w0 w → Calls Try.prog 11 #[.string S0, .slice A len cap] w fun e w' => e = .returned (.string L) ∧ Drawn0 w w') := ⟨fun w hw => by
        have := lits_any S0 A cap xs w (by omega) (by omega) (HS.out.below hw) k3
        rwa [hxl, k4] at this⟩
      clear k2 k3 k4 hxl
      subst hc0
      go_wp2_with fail
      refine (H10.out _ HB2.out).mono ?_
      rintro e w3 ⟨rfl, hb3⟩
      have HB3 := Aside0.mk (below_step HB2.out hb3)
      clear hb3
      go_wp2_with fail
      refine (H11.out _ HB3.out).mono ?_
      rintro e w4 ⟨rfl, hd4⟩
      have HB4 := Aside0.mk (below_step HB3.out hd4.below)
      clear hd4
      go_wp2
      go_ret
      exact ⟨rfl, HB4.out⟩
    · have hS := HBAD.out hc0
      subst hS
      have hcn : (c == 0) = false := by simpa using hc0
      have hcn2 : (c != 0) = true := by simpa using hc0
      clear hc0 hxl
      go_wp2
      go_ret
      exact ⟨rfl, HB2.out⟩
end Go.Proofs.Ytfcpjblogeofpac
