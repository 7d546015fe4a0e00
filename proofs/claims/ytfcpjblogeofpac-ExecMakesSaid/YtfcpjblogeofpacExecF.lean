/- The walks of awake and ExecRuns. -/
import Derived.Test.YtfcpjblogeofpacExecE
namespace Go.Proofs.Ytfcpjblogeofpac
open Go.RowKit Go.Proofs.YtfcpjblogeofpacW.PrintWords Go.Proofs.YtfcpjblogeofpacW.PrintLast Go.Proofs.YtfcpjblogeofpacW.PrintMore Go.Proofs.Ytfcpjblogeofpac.Fr
set_option linter.unusedVariables false
set_option linter.unusedSimpArgs false
attribute [local go_sem] max2_int min2_int max_two min_two

open Go.Proofs.Ytfcpjblogeofpac.Pl
theorem awake_run : run 2 9 [(0, 5, 2)] [97, 98] [] = ([97, 98, 97, 98, 97], 0) ∧ sizeF [(0, 5, 0)] 1 = 6 := by decide +kernel
theorem steps_one {W : World} {g : Nat} {a b c : Int} (h : W.heap[g]? = some (.cells #[.int .i64 a, .int .i64 b, .int .i64 c] 37 (0, 0))) : Steps W (some ⟨g, 0, none⟩) [(a, b, c)] := fun k hk => by
  have hk0 : k = 0 := by simpa using hk
  subst hk0
  refine ⟨⟨g, 0, none⟩, rfl, ?_, ?_, ?_⟩ <;> rw [Go.Proofs.YtfcpjblogeofpacW.PrintWords.add_plain]
  · exact (blk_cell h 0).trans rfl
  · exact (blk_cell h 1).trans rfl
  · exact (blk_cell h 2).trans rfl
theorem awake_any (w0 : World) : Calls Try.prog 6 #[] w0 fun e w' => e = .returned (.bool true) ∧ Below w0.heap.size w0 w' := by
  go_enter Try.func6, Try.ntmps6
  obtain ⟨g, hg⟩ : ∃ g, w0.heap.size = g := ⟨_, rfl⟩
  have HD : Aside0 (Steps (w0.alloc (.cells #[.int .i64 0, .int .i64 5, .int .i64 2] 37)) (some ⟨g, 0, none⟩) [(0, 5, 2)] ∧ Below g w0 (w0.alloc (.cells #[.int .i64 0, .int .i64 5, .int .i64 2] 37))) := ⟨by
    subst hg
    exact ⟨steps_one (blk_new w0 _), below_alloc (Below.refl _ _) _⟩⟩
  have HRN : Aside0 (∀ (W : World) (g : Nat), Steps W (some ⟨g, 0, none⟩) [(0, 5, 2)] → Calls Try.prog 7 #[.string { data := #[97, 98] }, .string { data := #[] }, .slice (some ⟨g, 0, none⟩) 1 1, .int .i64 9] W fun e w' => e = .returned (.tuple #[.string { data := #[97, 98, 97, 98, 97] }, .int .i64 0]) ∧ Below W.heap.size W w') := ⟨fun W g h => by
    refine (run_any { data := #[97, 98] } { data := #[] } (some ⟨g, 0, none⟩) 1 [(0, 5, 2)] 9 W (by decide) (by decide) (by decide) (by decide) h).mono ?_
    rintro e w' ⟨he, hb⟩
    refine ⟨?_, hb⟩
    rw [he]
    have := awake_run.1
    show Ending.returned (.tuple #[.string (toS (run 2 9 [(0, 5, 2)] [97, 98] []).1), .int .i64 (run 2 9 [(0, 5, 2)] [97, 98] []).2]) = _
    rw [this]
    rfl⟩
  have HSZ : Aside0 (∀ (W : World) (g : Nat), Steps W (some ⟨g, 0, none⟩) [(0, 5, 0)] → Calls Try.prog 9 #[.string { data := #[120] }, .slice (some ⟨g, 0, none⟩) 1 1] W fun e w' => e = .returned (.int .i64 6) ∧ Below W.heap.size W w') := ⟨fun W g h => by
    refine (size_any { data := #[120] } (some ⟨g, 0, none⟩) 1 [(0, 5, 0)] W (by decide) (by decide) h).mono ?_
    rintro e w' ⟨he, hb⟩
    refine ⟨?_, hb⟩
    rw [he]
    have := awake_run.2
    show Ending.returned (.int .i64 (sizeF [(0, 5, 0)] 1)) = _
    rw [this]⟩
  have HG : Aside0 (w0.heap.size = g) := ⟨hg⟩
  go_wp2_with fail
  refine (HRN.out _ g HD.out.1).mono ?_
  rintro e w1 ⟨rfl, hb⟩
  have HB : Aside0 (Below g w0 w1) := ⟨below_then HD.out.2 (by have := HD.out.2.size; have := HG.out; omega) hb⟩
  clear hb hg
  go_wp2_with fail
  have HD2 : Aside0 (Steps (w1.alloc (.cells #[.int .i64 0, .int .i64 5, .int .i64 0] 37)) (some ⟨w1.heap.size, 0, none⟩) [(0, 5, 0)]) := ⟨steps_one (blk_new w1 _)⟩
  refine (HSZ.out _ _ HD2.out).mono ?_
  rintro e w2 ⟨rfl, hb⟩
  have HB2 : Aside0 (Below g w0 w2) := ⟨by
    have h1 : Below w1.heap.size w1 w2 := below_step (below_alloc (Below.refl _ _) _) hb
    exact below_then HB.out (by have := HB.out.size; have := HG.out; omega) h1⟩
  clear hb
  go_wp2
  go_ret
  exact ⟨rfl, by rw [HG.out]; exact HB2.out⟩
theorem toS_size (b : Bs) : (toS b).size = b.length := by
  show b.toArray.size = _
  simp
theorem steps_of {w : World} {A : Option Addr} {len : Nat} {xs : List Stp} (h : int3.C w A len xs) : Steps w A xs ∧ xs.length = len := by
  refine ⟨fun k hk => ?_, h.1⟩
  obtain ⟨ad, he, hall⟩ := h.2.2 (by have := h.1; omega)
  obtain ⟨c, _, hK, hcell⟩ := hall k _ (List.getElem?_eq_getElem hk)
  have hK' : c = [.int .i64 (xs[k]).1, .int .i64 (xs[k]).2.1, .int .i64 (xs[k]).2.2] := hK
  subst hK'
  have e : xs.getD k (0, 0, 0) = xs[k] := by simp [List.getD_eq_getElem?_getD, hk]
  rw [e]
  exact ⟨ad, he, hcell 0 _ rfl, hcell 1 _ rfl, hcell 2 _ rfl⟩
set_option maxRecDepth 100000 in
set_option maxHeartbeats 4000000 in
theorem runs_walk (a b : ByteArray) (A : Option Addr) (len cap : Nat) (xs : List Stp) (limit : Int) (hlm : (Lit.int .i64 limit).wf = true) (w0 : World) (ha : a.size ≤ maxLen) (hb : b.size ≤ maxLen) (hcap : len ≤ cap) (hC : int3.C w0 A len xs) (hwf : ∀ p ∈ xs, (Lit.int .i64 p.1).wf = true ∧ (Lit.int .i64 p.2.1).wf = true ∧ (Lit.int .i64 p.2.2).wf = true) :
    Calls Try.prog 3 #[.agg #[.string a, .string b], .slice A len cap, .int .i64 limit] w0 fun e w' => e = .returned (.bool true) ∧ Below w0.heap.size w0 w' := by
  obtain ⟨hS, hxl⟩ := steps_of hC
  have HS := Aside0.mk hS
  have hl64 : len ≤ 9223372036854775807 := hC.2.1
  unfold maxLen at ha hb
  clear hC hwf hlm hS
  have HB0 : Aside0 (Below w0.heap.size w0 (w0.alloc (.cells #[.string a, .string b] 22))) := ⟨below_alloc (Below.refl _ _) _⟩
  have HX0 : Aside0 ((w0.alloc (.cells #[.string a, .string b] 22)).heap[w0.heap.size]? = some (.cells #[.string a, .string b] 22 (0, 0))) := ⟨blk_new w0 _⟩
  by_cases hg : 100 < a.size ∨ 100 < b.size ∨ 20 < len ∨ 600 < limit
  · have hd : (decide ((100 : Int) < (a.size : Int)) = true) ∨ (decide ((100 : Int) < (a.size : Int)) = false ∧ decide ((100 : Int) < (b.size : Int)) = true) ∨ (decide ((100 : Int) < (a.size : Int)) = false ∧ decide ((100 : Int) < (b.size : Int)) = false ∧ decide ((20 : Int) < (len : Int)) = true) ∨ (decide ((100 : Int) < (a.size : Int)) = false ∧ decide ((100 : Int) < (b.size : Int)) = false ∧ decide ((20 : Int) < (len : Int)) = false ∧ decide (600 < limit) = true) := by
      simp only [decide_eq_true_eq, decide_eq_false_iff_not]
      omega
    clear hg
    go_enter Try.func3, Try.ntmps3
    go_wp2_with fail
    generalize w0.alloc (.cells #[.string a, .string b] 22) = W at HB0 HX0 ⊢
    obtain ⟨gx, hgx⟩ : ∃ gx, w0.heap.size = gx := ⟨_, rfl⟩
    rw [hgx]
    rw [hgx] at HX0
    have HGX := Aside0.mk hgx
    clear hgx
    refine (awake_any _).mono ?_
    rintro e w1 ⟨rfl, hb1⟩
    have HB1 := Aside0.mk (below_step HB0.out hb1)
    have HX1 := Aside0.mk (blk_below HX0.out hb1)
    clear hb1
    have c0 : w1.cell? ⟨gx, 0, none⟩ = some (.string a) := (blk_cell HX1.out 0).trans rfl
    have c1 : w1.cell? ⟨gx, 1, none⟩ = some (.string b) := (blk_cell HX1.out 1).trans rfl
    rcases hd with hd | ⟨hd, hd2⟩ | ⟨hd, hd2, hd3⟩ | ⟨hd, hd2, hd3, hd4⟩
    all_goals
      go_wp2
      go_ret
      exact ⟨rfl, HB1.out⟩
  · have hd1 : decide ((100 : Int) < (a.size : Int)) = false := decide_eq_false (by omega)
    have hd2 : decide ((100 : Int) < (b.size : Int)) = false := decide_eq_false (by omega)
    have hd3 : decide ((20 : Int) < (len : Int)) = false := decide_eq_false (by omega)
    have hd4 : decide (600 < limit) = false := decide_eq_false (by omega)
    have ha1 : a.size ≤ 100 := by omega
    have hb1 : b.size ≤ 100 := by omega
    have hl1 : len ≤ 20 := by omega
    have hm1 : limit ≤ 600 := by omega
    clear hg
    obtain ⟨lim, hlm⟩ : ∃ lim, limOf limit = lim := ⟨_, rfl⟩
    have hmx : (if limit < 0 then 0 else limit) = lim := hlm
    obtain ⟨r, hr⟩ : ∃ r, run a.size lim xs a.data.toList b.data.toList = r := ⟨_, rfl⟩
    obtain ⟨S0, hS0⟩ : ∃ S0, toS r.1 = S0 := ⟨_, rfl⟩
    obtain ⟨c, hc⟩ : ∃ c, r.2 = c := ⟨_, rfl⟩
    have H7 : Aside0 (∀ w, Below w0.heap.size w0 w → Calls Try.prog 7 #[.string a, .string b, .slice A len cap, .int .i64 limit] w fun e w' => e = .returned (.tuple #[.string S0, .int .i64 c]) ∧ Below w.heap.size w w') := ⟨fun w hw => by
      have := run_any a b A cap xs limit w (by omega) (by omega) (by omega) (by omega) (HS.out.below hw)
      unfold RunPost at this
      rwa [hlm, hr, hS0, hc, hxl] at this⟩
    have H8 : Aside0 (∀ w, Below w0.heap.size w0 w → Calls Try.prog 8 #[.string a, .string b, .slice A len cap, .int .i64 limit] w fun e w' => e = .returned (.tuple #[.string S0, .int .i64 c]) ∧ Below w.heap.size w w') := ⟨fun w hw => by
      have := refRun_any a b A cap xs limit w (by omega) (by omega) (by omega) (by omega) (HS.out.below hw)
      unfold RunPost at this
      rwa [hlm, hr, hS0, hc, hxl] at this⟩
    have H9 : Aside0 (∀ w, Below w0.heap.size w0 w → Calls Try.prog 9 #[.string b, .slice A len cap] w fun e w' => e = .returned (.int .i64 (sizeF xs b.size)) ∧ Below w.heap.size w w') := ⟨fun w hw => by
      have := size_any b A cap xs w (by omega) (by omega) (HS.out.below hw)
      rwa [hxl] at this⟩
    have HOK : Aside0 (c = 0 → (S0.size : Int) ≤ lim ∧ sizeF xs b.size = (S0.size : Int)) := ⟨fun hc0 => by
      obtain ⟨r1, r2⟩ := r
      simp only at hc hS0
      rw [hc0] at hc
      subst hc
      obtain ⟨h1, h2, h3⟩ := run_ok hr (by rw [data_length]; omega)
      rw [data_length, data_length] at h1
      have h4 : (S0.size : Int) = (r1.length : Int) := by rw [← hS0, toS_size]
      have hl0 : lim ≤ 600 := by rw [← hlm]; unfold limOf; split <;> omega
      refine ⟨by omega, ?_⟩
      rw [sizeF_sum xs _ (fun s hs => by have := h3 s hs; omega) (by omega) (by omega)]
      omega⟩
    have hsz : S0.size ≤ 600 := by
      by_cases h : c = 0
      · have h1 := (HOK.out h).1
        have hl0 : lim ≤ 600 := by rw [← hlm]; unfold limOf; split <;> omega
        omega
      · obtain ⟨r1, r2⟩ := r
        simp only at hc hS0
        have := (run_err hr).2 (by rw [hc]; exact h)
        rw [← hS0, toS_size, this]
        simp
    clear hr hS0 hc hlm hxl
    go_enter Try.func3, Try.ntmps3
    go_wp2_with fail
    generalize w0.alloc (.cells #[.string a, .string b] 22) = W at HB0 HX0 ⊢
    obtain ⟨gx, hgx⟩ : ∃ gx, w0.heap.size = gx := ⟨_, rfl⟩
    rw [hgx]
    rw [hgx] at HX0
    have HGX := Aside0.mk hgx
    clear hgx
    refine (awake_any _).mono ?_
    rintro e w1 ⟨rfl, hb1⟩
    have HB1 := Aside0.mk (below_step HB0.out hb1)
    have HX1 := Aside0.mk (blk_below HX0.out hb1)
    clear hb1 HB0 HX0
    have c0 : w1.cell? ⟨gx, 0, none⟩ = some (.string a) := (blk_cell HX1.out 0).trans rfl
    have c1 : w1.cell? ⟨gx, 1, none⟩ = some (.string b) := (blk_cell HX1.out 1).trans rfl
    go_wp2_with fail
    refine (H7.out _ HB1.out).mono ?_
    rintro e w2 ⟨rfl, hb2⟩
    have HB2 := Aside0.mk (below_step HB1.out hb2)
    have HX2 := Aside0.mk (blk_below HX1.out hb2)
    clear hb2 HB1 HX1 c0 c1
    have c0 : w2.cell? ⟨gx, 0, none⟩ = some (.string a) := (blk_cell HX2.out 0).trans rfl
    have c1 : w2.cell? ⟨gx, 1, none⟩ = some (.string b) := (blk_cell HX2.out 1).trans rfl
    go_wp2_with fail
    refine (H8.out _ HB2.out).mono ?_
    rintro e w3 ⟨rfl, hb3⟩
    have HB3 := Aside0.mk (below_step HB2.out hb3)
    have HX3 := Aside0.mk (blk_below HX2.out hb3)
    clear hb3 HB2 HX2 c0 c1
    have c1 : w3.cell? ⟨gx, 1, none⟩ = some (.string b) := (blk_cell HX3.out 1).trans rfl
    by_cases hc0 : c = 0
    · obtain ⟨hle, hsz2⟩ := HOK.out hc0
      rw [hsz2] at H9
      clear hsz2
      subst hc0
      have hd5 : decide ((S0.size : Int) ≤ lim) = true := decide_eq_true hle
      go_wp2_with fail
      refine (H9.out _ HB3.out).mono ?_
      rintro e w4 ⟨rfl, hb4⟩
      have HB4 := Aside0.mk (below_step HB3.out hb4)
      clear hb4
      go_wp2
      go_ret
      exact ⟨rfl, HB4.out⟩
    · have hcn : (c == 0) = false := by simpa using hc0
      have hcn2 : (c != 0) = true := by simpa using hc0
      clear hc0
      go_wp2
      go_ret
      exact ⟨rfl, HB3.out⟩
end Go.Proofs.Ytfcpjblogeofpac
